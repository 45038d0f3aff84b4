/- The texts NL ZJ NM NN XG XH XI NO XJ XK OA NP OE Y8 Y9 XL XM XN XO NQ NR NS NT NU Y5 ZF ZG ZK0 NV ZH OJ OJ2 NW ZI Y6 ZK NX G4 NY: each says at its head what it shows. Part 5 of the proof; no conditions beyond the theorems' own. -/
import Derived.Test.YtnjanpmgonoeeaaGreatDoorKW3
import Derived.Test.YtnjanpmgonoeeaaGreatDoorKW4
import Derived.Test.YtnjanpmgonoeeaaGreatDoorKW2
/- zone.Build of the program: zones of two long lines. -/
set_option maxHeartbeats 8000000
set_option maxRecDepth 100000
set_option linter.unusedVariables false
set_option linter.unusedSimpArgs false
namespace Tdoc
open Go Go.Proofs
def HLbook (zc:List AV) (i:Nat):List AObj:=match i with
 | 0=>[.row zc,.row (intsA (layD 3)),.row (intsA (layD 3)++[.sl 1 [] .full]),.room,.room,.room,.room,.room,.room,.room]
 | 1=>[.row zc,.row (intsA (layD 3)),.row (intsA (layD 3)++[.bm 3 1]),.buf 1 1 [.rx 4 0 44],.row (byteAV (List.replicate 44 60)),.room,.dead,.room,.room,.room]
 | _=>[.row zc,.row (intsA (layD 3)),.row (intsA (layD 3)++[.bm 3 2]),.buf 1 2 [.rx 4 0 44,.rx 5 0 44],.row (byteAV (List.replicate 44 60)),.row (byteAV (List.replicate 44 60)),.dead,.dead,.room,.room]
theorem BuildP_book (z:Zon) (hz:zLen z) (h0:validZ z=0) (hf:z.fmt=3):Spec Tryz.prog 65 [zAV z] [] (fun r h'=>r=.tup [.d (.sl 1 (encSs (buildZ z))),.d (.int .i64 0)]∧h'=[]):=by
 have hv:=ZValid_spec z hz
 have hlay:Spec Tryz.prog 120 [.d (.int .i64 3)] [] (fun r h'=>r=.tup [.agg (intsA (layD 3)),.d (.int .i64 2),.d (.int .i64 44)]∧h'=[]):=layout_spec 3
 have hR:Spec Tryz.prog 121 [.d (.str [60]),.d (.int .i64 44)] [] (fun r h'=>r=.d (.str (List.replicate 44 60))∧h'=[]):=qBz 44 (by omega)
 have hNm:=NamesP_spec z.sur z.giv 39 (by have:=hz.2.2.1;omega) (by have:=hz.2.2.2.1;omega)
 have hNl:=namesF_ok h0 (w:=39) (by omega)
 have hd1:Spec Tryz.prog 123 [.d (.str z.bir)] [] (fun r h'=>r=.d (.str (dgS z.bir))∧h'=[]):=qCm z.bir (by have:=hz.2.2.2.2.2.2.1;omega)
 have hd2:Spec Tryz.prog 123 [.d (.str z.exp)] [] (fun r h'=>r=.d (.str (dgS z.exp))∧h'=[]):=qCm z.exp (by have:=hz.2.2.2.2.2.2.2.2.1;omega)
 rw [h0] at hv
 have ok:=validZ_ok h0
 obtain ⟨fmt,kind,state,sur,giv,num,nat,bir,sex,exp,opt,sec⟩:=z
 unfold zAV zCells at hv ⊢
 simp only at hv hf hNm hNl hd1 hd2 ⊢
 subst hf
 generalize hnm:namesF sur giv 39=nm at hNm hNl
 obtain ⟨name,ne⟩:=nm
 simp only at hNm hNl
 have hkeys:∀ y∈([(3,0,kind),(6,1,state),(8,2,name),(11,5,nat),(14,6,bir),(18,7,dgS bir),(21,8,sex),(24,9,exp),(28,10,dgS exp),(31,13,sec)]:Ins),∃ i:Nat,i < 15∧y.2.1=(i:Int):=fun y hy=>by
  simp only [List.mem_cons,List.not_mem_nil,or_false] at hy
  rcases hy with rfl | rfl | rfl | rfl | rfl | rfl | rfl | rfl | rfl | rfl
  ·exact ⟨0,by omega,rfl⟩
  ·exact ⟨1,by omega,rfl⟩
  ·exact ⟨2,by omega,rfl⟩
  ·exact ⟨5,by omega,rfl⟩
  ·exact ⟨6,by omega,rfl⟩
  ·exact ⟨7,by omega,rfl⟩
  ·exact ⟨8,by omega,rfl⟩
  ·exact ⟨9,by omega,rfl⟩
  ·exact ⟨10,by omega,rfl⟩
  ·exact ⟨13,by omega,rfl⟩
 have hlen:∀ y∈([(3,0,kind),(6,1,state),(8,2,name),(11,5,nat),(14,6,bir),(18,7,dgS bir),(21,8,sex),(24,9,exp),(28,10,dgS exp),(31,13,sec)]:Ins),y.2.2.length≤100000:=fun y hy=>by
  have hb1:=qAz bir
  have hb2:=qAz exp
  obtain ⟨g1,g2,g3,g4,g5,g6,g7,g8,g9,g10,g11⟩:=hz
  simp only at g1 g2 g3 g4 g5 g6 g7 g8 g9 g10 g11
  simp only [List.mem_cons,List.not_mem_nil,or_false] at hy
  rcases hy with rfl | rfl | rfl | rfl | rfl | rfl | rfl | rfl | rfl | rfl <;> simp only [dgS] <;> omega
 have hflat:∀ p,p∈mapA [(3,0,kind),(6,1,state),(8,2,name),(11,5,nat),(14,6,bir),(18,7,dgS bir),(21,8,sex),(24,9,exp),(28,10,dgS exp),(31,13,sec)]→isFlat p.1=true∧isFlat p.2=true:=fun p hp=>by obtain ⟨y,_,rfl⟩:=List.mem_map.1 hp;exact ⟨rfl,rfl⟩
 refine qAb hT Tryz.func65 rfl rfl rfl rfl ?_;intro E hE
 refine ww ?_
 refine wwc hv ?_
 refine ww ?_
 refine qAa rfl (fun c1=>?_) (fun c1=>?_)
 ·exact absurd c1 (by simp)
 refine ww ?_
 refine wwc hlay ?_
 refine ww ?_
 refine qAo ?_
 refine qAo ?_
 refine qAo ?_
 refine qAo ?_
 refine qAo ?_
 refine qAo ?_
 refine qAo ?_
 refine qAn (ι:=Nat) (fun i=>[(1,.ptr 0 0),(5,.ptr 1 0),(7,.d (.int .i64 44)),(8,.ptr 2 0),(31,.d (.int .i64 2)),(32,.d (.int .i64 (i:Int)))]) (fun i=>HLbook [.d (.int .i64 3),.d (.str kind),.d (.str state),.d (.str sur),.d (.str giv),.d (.str num),.d (.str nat),.d (.str bir),.d (.str sex),.d (.str exp),.d (.str opt),.d (.str sec)] i) (fun i=>i≤2) (fun i=>2-i) 0 (by omega) ⟨.refl _,.refl _,.refl _,.refl _,.refl _,.refl _,trivial⟩ (HLe.refl _) ?_
 intro i hi
 refine ww ?_
 refine qAa rfl (fun c2=>?_) (fun c2=>?_)
 ·have hi3:i=0∨i=1:=by have h3:(i:Int) < 2:=(by simpa using c2);omega
  rcases hi3 with rfl | rfl
  ·refine wwn ?_
   refine qBd (fun i=>bif Nat.beq i 4 then [2] else bif Nat.beq i 7 then [4] else bif Nat.beq i 8 then [6] else bif Nat.beq i 9 then [3,6] else bif Nat.beq i 12 then [2] else []) (fun i=>bif Nat.beq i 7 then [4] else bif Nat.beq i 8 then [6] else bif Nat.beq i 9 then [3] else bif Nat.beq i 12 then [2] else []) mixed (by kernel_rfl) ?_
   refine wwg ?_
   refine wwdc hR ?_
   refine qAq (v:=.rx 4 0 44) (os:=[.row (byteAV (List.replicate 44 60))]) (fun kk hk1 hk2=>strRx_ok (s:=List.replicate 44 60) hT rfl rfl rfl ((hk2 4 List.mem_cons_self).trans rfl)) rfl ?_
   refine qAq (v:=.row 6 0 1 1) (os:=[.row [.rx 4 0 44]]) (fun kk hk1 hk2=>qCn hT rfl rfl ((hk2 6 List.mem_cons_self).trans rfl)) rfl ?_
   refine qAq (v:=.bm 3 1) (os:=[.buf 1 1 [.rx 4 0 44]]) (fun kk hk1 hk2=>bufAppRow0_ok hT rfl rfl rfl (.inl rfl) (by intro h;cases h) ((hk2 3 List.mem_cons_self).trans rfl) rfl ((hk2 6 (List.mem_cons_of_mem _ List.mem_cons_self)).trans rfl) rfl (by decide)) rfl ?_
   refine wwg ?_
   refine ww ?_
   exact ⟨1,by omega,by omega,⟨.refl _,.refl _,.refl _,.refl _,.refl _,.refl _,trivial⟩,⟨.refl _,.refl _,.refl _,.refl _,.refl _,.refl _,trivial,.refl _,.refl _,.refl _,trivial⟩⟩
  ·refine wwn ?_
   refine qBd (fun i=>bif Nat.beq i 4 then [2] else bif Nat.beq i 7 then [5] else bif Nat.beq i 8 then [7] else bif Nat.beq i 9 then [3,7] else bif Nat.beq i 12 then [2] else []) (fun i=>bif Nat.beq i 7 then [5] else bif Nat.beq i 8 then [7] else bif Nat.beq i 9 then [3] else bif Nat.beq i 12 then [2] else []) mixed (by kernel_rfl) ?_
   refine wwg ?_
   refine wwdc hR ?_
   refine qAq (v:=.rx 5 0 44) (os:=[.row (byteAV (List.replicate 44 60))]) (fun kk hk1 hk2=>strRx_ok (s:=List.replicate 44 60) hT rfl rfl rfl ((hk2 5 List.mem_cons_self).trans rfl)) rfl ?_
   refine qAq (v:=.row 7 0 1 1) (os:=[.row [.rx 5 0 44]]) (fun kk hk1 hk2=>qCn hT rfl rfl ((hk2 7 List.mem_cons_self).trans rfl)) rfl ?_
   refine qAq (v:=.bm 3 2) (os:=[.buf 1 2 [.rx 4 0 44,.rx 5 0 44]]) (fun kk hk1 hk2=>bufAppRow_ok hT rfl rfl rfl rfl ((hk2 3 List.mem_cons_self).trans rfl) rfl ((hk2 7 (List.mem_cons_of_mem _ List.mem_cons_self)).trans rfl) rfl (by decide)) rfl ?_
   refine wwg ?_
   refine ww ?_
   exact ⟨2,by omega,by omega,⟨.refl _,.refl _,.refl _,.refl _,.refl _,.refl _,trivial⟩,⟨.refl _,.refl _,.refl _,.refl _,.refl _,.refl _,trivial,trivial,.refl _,.refl _,trivial⟩⟩
 have hi':i=2:=by have h3:¬ ((i:Int) < 2):=(by simpa using c2);omega
 subst hi'
 refine ww ?_
 first | refine qAd (qAc (qAm hT rfl rfl rfl rfl (by decide))) rfl ?_ | refine qBc (qAc (qAm hT rfl rfl rfl rfl (by decide))) rfl rfl ?_
 refine ww ?_
 refine wwc hNm ?_
 refine wws ?_
 refine qDa (l:=[(1,.ptr 0 0),(8,.ptr 2 0),(9,.d (.str name))]) (h':=[.row [.d (.int .i64 3),.d (.str kind),.d (.str state),.d (.str sur),.d (.str giv),.d (.str num),.d (.str nat),.d (.str bir),.d (.str sex),.d (.str exp),.d (.str opt),.d (.str sec)],.dead,.row (shB (layD 3) 2),.buf 1 2 [.rx 4 0 44,.rx 5 0 44],.row (byteAV (lineF (segsZ 3 0) (fun _=>[]))),.row (byteAV (lineF (segsZ 3 1) (fun _=>[]))),.dead,.dead,.room,.room]) ⟨.refl _,.refl _,.refl _,trivial⟩ ⟨.refl _,trivial,.refl _,.refl _,ObLe.row rfl,ObLe.row rfl,trivial,trivial,.refl _,.refl _,trivial⟩ ?_
 refine qAs (ι:=Unit) (fun _=>[(1,.ptr 0 0),(8,.ptr 2 0)]) (fun _=>[.row [.d (.int .i64 3),.d (.str kind),.d (.str state),.d (.str sur),.d (.str giv),.d (.str num),.d (.str nat),.d (.str bir),.d (.str sex),.d (.str exp),.d (.str opt),.d (.str sec)],.dead,.row (shB (layD 3) 2),.buf 1 2 [.rx 4 0 44,.rx 5 0 44],.row (byteAV (lineF (segsZ 3 0) (FK [(3,0,kind),(6,1,state),(8,2,name),(11,5,nat),(14,6,bir),(18,7,dgS bir),(21,8,sex),(24,9,exp),(28,10,dgS exp),(31,13,sec)]))),.row (byteAV (lineF (segsZ 3 1) (FK [(3,0,kind),(6,1,state),(8,2,name),(11,5,nat),(14,6,bir),(18,7,dgS bir),(21,8,sex),(24,9,exp),(28,10,dgS exp),(31,13,sec)]))),.dead,.dead,.dead,.dead]) (fun _=>True) ?_ ?_
 ·refine qAt ?_
  refine AW_drawM (mapM 0 (insS [(3,0,kind),(6,1,state),(8,2,name),(11,5,nat),(14,6,bir),(18,7,dgS bir),(21,8,sex),(24,9,exp),(28,10,dgS exp),(31,13,sec)])) 8 33 32 (fun _=>[0]) (fun _=>[]) mixed rfl (by kernel_rfl) (by kernel_rfl) rfl ?_
  refine AWm_make hT rfl (by kernel_rfl) (by decide) (qBm rfl) rfl ?_
  refine qAx (by decide) (by decide) (qAg rfl) ?_
  refine wwg ?_
  refine qAx (by decide) (by decide) (qAg rfl) ?_
  refine wwg ?_
  refine qBk hT rfl 0 rfl hmt hit rfl rfl rfl rfl rfl rfl (by kernel_rfl) rfl ?_
  refine qAx (by decide) (by decide) (qAg rfl) ?_
  refine wwg ?_
  refine qAx (by decide) (by decide) (qAg rfl) ?_
  refine wwg ?_
  refine qBk hT rfl 1 rfl hmt hit rfl rfl rfl rfl rfl rfl (by kernel_rfl) rfl ?_
  refine qAx (by decide) (by decide) (qAg rfl) ?_
  refine wwg ?_
  refine qBk hT rfl 2 rfl hmt hit rfl rfl rfl rfl rfl rfl (by kernel_rfl) rfl ?_
  refine qAx (by decide) (by decide) (qAg rfl) ?_
  refine wwg ?_
  refine qAx (by decide) (by decide) (qAg rfl) ?_
  refine wwg ?_
  refine qBk hT rfl 3 rfl hmt hit rfl rfl rfl rfl rfl rfl (by kernel_rfl) rfl ?_
  refine qAx (by decide) (by decide) (qAg rfl) ?_
  refine wwg ?_
  refine qAx (by decide) (by decide) (qAg rfl) ?_
  refine wwg ?_
  refine qBk hT rfl 4 rfl hmt hit rfl rfl rfl rfl rfl rfl (by kernel_rfl) rfl ?_
  refine qAx (by decide) (by decide) (qAg rfl) ?_
  refine wwg ?_
  refine qAx (by decide) (by decide) (qAg rfl) ?_
  refine wwg ?_
  refine qAx (by decide) (by decide) (qAg rfl) ?_
  refine wwdc hd1 ?_
  refine wwg ?_
  refine qBk hT rfl 5 rfl hmt hit rfl rfl rfl rfl rfl rfl (by kernel_rfl) rfl ?_
  refine qAx (by decide) (by decide) (qAg rfl) ?_
  refine wwg ?_
  refine qAx (by decide) (by decide) (qAg rfl) ?_
  refine wwg ?_
  refine qBk hT rfl 6 rfl hmt hit rfl rfl rfl rfl rfl rfl (by kernel_rfl) rfl ?_
  refine qAx (by decide) (by decide) (qAg rfl) ?_
  refine wwg ?_
  refine qAx (by decide) (by decide) (qAg rfl) ?_
  refine wwg ?_
  refine qBk hT rfl 7 rfl hmt hit rfl rfl rfl rfl rfl rfl (by kernel_rfl) rfl ?_
  refine qAx (by decide) (by decide) (qAg rfl) ?_
  refine wwg ?_
  refine qAx (by decide) (by decide) (qAg rfl) ?_
  refine wwg ?_
  refine qAx (by decide) (by decide) (qAg rfl) ?_
  refine wwdc hd2 ?_
  refine wwg ?_
  refine qBk hT rfl 8 rfl hmt hit rfl rfl rfl rfl rfl rfl (by kernel_rfl) rfl ?_
  refine qAx (by decide) (by decide) (qAg rfl) ?_
  refine wwg ?_
  refine qAx (by decide) (by decide) (qAg rfl) ?_
  refine wwg ?_
  refine qBk hT rfl 9 rfl hmt hit rfl rfl rfl rfl rfl rfl (by kernel_rfl) rfl ?_
  refine qAx (by decide) (by decide) (qAg rfl) ?_
  refine wwg ?_
  refine AWm_range (it:=9) rfl hmt rfl rfl rfl rfl rfl rfl rfl ?_
  intro bm es clock hA
  have hAm:MapIs (mapA [(3,0,kind),(6,1,state),(8,2,name),(11,5,nat),(14,6,bir),(18,7,dgS bir),(21,8,sex),(24,9,exp),(28,10,dgS exp),(31,13,sec)]) es clock:=hA
  refine ww ?_
  refine qAn (ι:=Array Nat×(Nat→List UInt8)) (fun x=>[(1,.ptr 0 0),(8,.ptr 2 0),(81,.ptr 9 0)]) (fun x=>[.row [.d (.int .i64 3),.d (.str kind),.d (.str state),.d (.str sur),.d (.str giv),.d (.str num),.d (.str nat),.d (.str bir),.d (.str sex),.d (.str exp),.d (.str opt),.d (.str sec)],.dead,.row (shB (layD 3) 2),.buf 1 2 [.rx 4 0 44,.rx 5 0 44],.row (byteAV (lineF (segsZ 3 0) x.2)),.row (byteAV (lineF (segsZ 3 1) x.2)),.dead,.dead,.opq (mapC bm es clock),.opq (iterC bm clock x.1 clock)]) (fun x=>MapInv [(3,0,kind),(6,1,state),(8,2,name),(11,5,nat),(14,6,bir),(18,7,dgS bir),(21,8,sex),(24,9,exp),(28,10,dgS exp),(31,13,sec)] es x) (fun x=>(leftOf es x.1).size) (#[],fun _=>[]) (MapInv.init _ _) ⟨.refl _,.refl _,.refl _,trivial⟩ (HLe.refl _) ?_
  rintro ⟨seen,F⟩ hinv
  simp only
  refine ww ?_
  refine AWk_opR (next_ok (m:=8) hAm hflat rfl rfl rfl rfl) rfl ?_
  rintro u k (⟨h0',rfl,rfl⟩ | ⟨e,p,he,hp,e1,e2,rfl,rfl⟩)
  ·have hFF:=hinv.done (by kernel_rfl) hAm h0'
   subst hFF
   refine ww ?_
   refine qAa rfl (fun c3=>?_) (fun c3=>?_)
   ·exact absurd c3 (by simp)
   refine ww ?_
   exact ⟨(),trivial,⟨.refl _,.refl _,trivial⟩,⟨.refl _,.refl _,.refl _,.refl _,.refl _,.refl _,trivial,trivial,trivial,trivial,trivial⟩⟩
  ·obtain ⟨y,hy,rfl⟩:=List.mem_map.1 hp
   obtain ⟨i,hi15,hyi⟩:=hkeys y hy
   have hys:=hlen y hy
   have hst:=hinv.step (by kernel_rfl) hAm (mem_left he).1 hy hyi (by rw [e1];simp only [flatV];rw [hyi]) e2
   have hsm:=left_shrinks es seen e he
   obtain ⟨ix,n,s⟩:=y
   simp only at hyi hys hst e1 e2
   subst hyi
   simp only
   refine ww ?_
   refine qAa rfl (fun c3=>?_) (fun c3=>?_)
   rotate_left
   ·exact absurd c3 (by simp)
   refine ww ?_
   refine qAd (entry_ok (m:=8) (e:=e) (p:=(.int .i64 (i:Int),.str s)) hAm ⟨rfl,rfl⟩ rfl rfl rfl rfl (mem_left he).1 e1 e2) rfl ?_
   refine ww ?_
   refine qAd (call2 (F:=F) (F':=updF F i s) rfl rfl (qBx 3 44 (.inr ⟨rfl,rfl⟩) F i hi15 s hys) rfl rfl rfl rfl rfl) rfl ?_
   refine ww ?_
   exact ⟨(seen.push e.born,updF F i s),hst,hsm,⟨.refl _,.refl _,.refl _,trivial⟩,HLe.refl _⟩
 ·intro _ _
  have hd3:=fun s hs=>qCm s hs
  obtain ⟨g1,g2,g3,g4,g5,g6,g7,g8,g9,g10,g11⟩:=hz
  simp only at g1 g2 g3 g4 g5 g6 g7 g8 g9 g10 g11
  have hdn:=qAz num
  generalize hG:FK [(3,0,kind),(6,1,state),(8,2,name),(11,5,nat),(14,6,bir),(18,7,dgS bir),(21,8,sex),(24,9,exp),(28,10,dgS exp),(31,13,sec)]=G
  generalize hG1:(if num.length > 9 then updF (updF G 3 (num.take 9)) 11 (num.drop 9++dgS num++[60]++opt) else updF (updF (updF G 3 num) 4 (dgS (fitW 9 num))) 11 opt)=G1
  refine qAs (ι:=Unit) (fun _=>[(1,.ptr 0 0),(8,.ptr 2 0)]) (fun _=>[.row [.d (.int .i64 3),.d (.str kind),.d (.str state),.d (.str sur),.d (.str giv),.d (.str num),.d (.str nat),.d (.str bir),.d (.str sex),.d (.str exp),.d (.str opt),.d (.str sec)],.dead,.row (shB (layD 3) 2),.buf 1 2 [.rx 4 0 44,.rx 5 0 44],.row (byteAV (lineF (segsZ 3 0) G1)),.row (byteAV (lineF (segsZ 3 1) G1)),.dead,.dead,.dead,.dead]) (fun _=>True) ?_ ?_
  ·refine ww ?_
   refine qAa rfl (fun d1=>?_) (fun d1=>?_)
   ·have dl:num.length > 9:=by have h3:(9:Int) < (num.length:Int):=(by simpa using d1);omega
    rw [if_pos dl] at hG1
    subst hG1
    have hdg:=hd3 num (by omega)
    have hdl:num.length-9+(digitF num).1.length≤100000:=by omega
    refine ww ?_
    refine qAd (call2 (F:=G) (F':=updF G 3 (num.take 9)) rfl rfl (qBx 3 44 (.inr ⟨rfl,rfl⟩) G 3 (by omega) (num.take 9) (by simp;omega)) rfl rfl rfl rfl rfl) rfl ?_
    refine wwn ?_
    refine qBd (fun i=>bif Nat.beq i 12 then [2,3,4,5] else [0]) (fun i=>bif Nat.beq i 12 then [2,3,4,5] else []) mixed (by kernel_rfl) ?_
    refine wwg ?_
    refine wwdc hdg ?_
    refine wwg ?_
    refine qAq (v:=.tup []) (os:=HC2 3 44 (updF (updF G 3 (num.take 9)) 11 (num.drop 9++dgS num++[60]++opt))) (fun kk hk1 hk2=>call2 (F:=updF G 3 (num.take 9)) rfl rfl (qBx 3 44 (.inr ⟨rfl,rfl⟩) (updF G 3 (num.take 9)) 11 (by omega) (num.drop 9++dgS num++[60]++opt) (by simp [dgS];omega)) (by simp only [List.map_cons,List.map_nil,hk2 2 (by decide),hk2 3 (by decide),hk2 4 (by decide),hk2 5 (by decide)];rfl) rfl rfl rfl rfl) rfl ?_
    refine wwg ?_
    exact ⟨(),trivial,⟨.refl _,.refl _,trivial⟩,HLe.refl _⟩
   ·have dl:¬ num.length > 9:=by have h3:(num.length:Int)≤9:=(by simpa using d1);omega
    rw [if_neg dl] at hG1
    subst hG1
    have hdg:=hd3 (fitW 9 num) (by rw [qAy];omega)
    have hdl:=qAz (fitW 9 num)
    refine ww ?_
    refine qAd (call2 (F:=G) (F':=updF G 3 num) rfl rfl (qBx 3 44 (.inr ⟨rfl,rfl⟩) G 3 (by omega) num (by omega)) rfl rfl rfl rfl rfl) rfl ?_
    refine ww ?_
    refine qAd (call2 (F:=updF G 3 num) (F':=updF G 3 num) (r0:=.d (.str (fitW 9 num))) rfl rfl (get2_spec 3 44 (.inr ⟨rfl,rfl⟩) (updF G 3 num) 3 (.inl rfl)) rfl rfl rfl rfl rfl) rfl ?_
    refine wwc hdg ?_
    refine ww ?_
    refine qAd (call2 (F:=updF G 3 num) (F':=updF (updF G 3 num) 4 (dgS (fitW 9 num))) rfl rfl (qBx 3 44 (.inr ⟨rfl,rfl⟩) (updF G 3 num) 4 (by omega) (dgS (fitW 9 num)) (by show (digitF (fitW 9 num)).1.length≤_;omega)) rfl rfl rfl rfl rfl) rfl ?_
    refine ww ?_
    refine qAd (call2 (F:=updF (updF G 3 num) 4 (dgS (fitW 9 num))) (F':=updF (updF (updF G 3 num) 4 (dgS (fitW 9 num))) 11 opt) rfl rfl (qBx 3 44 (.inr ⟨rfl,rfl⟩) (updF (updF G 3 num) 4 (dgS (fitW 9 num))) 11 (by omega) opt (by omega)) rfl rfl rfl rfl rfl) rfl ?_
    refine ww ?_
    exact ⟨(),trivial,⟨.refl _,.refl _,trivial⟩,HLe.refl _⟩
  ·intro _ _
   generalize hG2:(if opt=[] then G1 else updF G1 12 (dgS (fitW 14 (G1 11))))=G2
   refine qAs (ι:=Unit) (fun _=>[(1,.ptr 0 0),(8,.ptr 2 0)]) (fun _=>[.row [.d (.int .i64 3),.d (.str kind),.d (.str state),.d (.str sur),.d (.str giv),.d (.str num),.d (.str nat),.d (.str bir),.d (.str sex),.d (.str exp),.d (.str opt),.d (.str sec)],.dead,.row (shB (layD 3) 2),.buf 1 2 [.rx 4 0 44,.rx 5 0 44],.row (byteAV (lineF (segsZ 3 0) G2)),.row (byteAV (lineF (segsZ 3 1) G2)),.dead,.dead,.dead,.dead]) (fun _=>True) ?_ ?_
   ·refine ww ?_
    refine qAa rfl (fun d2=>?_) (fun d2=>?_)
    ·have dl:opt≠[]:=by simpa using d2
     rw [if_neg dl] at hG2
     subst hG2
     have hdg:=hd3 (fitW 14 (G1 11)) (by rw [qAy];omega)
     have hdl:=qAz (fitW 14 (G1 11))
     refine ww ?_
     refine qAd (call2 (F:=G1) (F':=G1) (r0:=.d (.str (fitW 14 (G1 11)))) rfl rfl (get2_spec 3 44 (.inr ⟨rfl,rfl⟩) G1 11 (.inr rfl)) rfl rfl rfl rfl rfl) rfl ?_
     refine wwc hdg ?_
     refine ww ?_
     refine qAd (call2 (F:=G1) (F':=updF G1 12 (dgS (fitW 14 (G1 11)))) rfl rfl (qBx 3 44 (.inr ⟨rfl,rfl⟩) G1 12 (by omega) (dgS (fitW 14 (G1 11))) (by show (digitF (fitW 14 (G1 11))).1.length≤_;omega)) rfl rfl rfl rfl rfl) rfl ?_
     refine ww ?_
     exact ⟨(),trivial,⟨.refl _,.refl _,trivial⟩,HLe.refl _⟩
    ·have dl:opt=[]:=by simpa using d2
     rw [if_pos dl] at hG2
     subst hG2
     refine ww ?_
     exact ⟨(),trivial,⟨.refl _,.refl _,trivial⟩,HLe.refl _⟩
   intro _ _
   generalize hs:compG [lineF (segsZ 3 0) G2,lineF (segsZ 3 1) G2]=s
   have hsl:s.length≤1000:=by rw [← hs];exact comp_len2 (by decide) (qAw G2 _)
   have k2:∀ j,j≠12→G2 j=G1 j:=fun j hj=>by
    rw [← hG2]
    split
    ·rfl
    ·unfold updF;rw [if_neg hj]
   have k1:∀ j,j≠3→j≠4→j≠11→G1 j=G j:=fun j h3 h4 h11=>by
    rw [← hG1]
    split
    ·unfold updF;rw [if_neg h11,if_neg h3]
    ·unfold updF;rw [if_neg h11,if_neg h4,if_neg h3]
   have k0:∀ j,j≠3→j≠4→j≠11→j≠12→G2 j=FK [(3,0,kind),(6,1,state),(8,2,name),(11,5,nat),(14,6,bir),(18,7,dgS bir),(21,8,sex),(24,9,exp),(28,10,dgS exp),(31,13,sec)] j:=fun j h3 h4 h11 h12=>by rw [k2 j h12,k1 j h3 h4 h11,← hG]
   have e4:G 4=[]:=by rw [← hG];rfl
   have e12:G1 12=[]:=by rw [k1 12 (by omega) (by omega) (by omega),← hG];rfl
   have hroom:=ok.opt.1
   have hmost:=ok.num.2.1
   unfold roomF at hroom
   unfold mostN at hmost
   simp only at hroom hmost
   have e11:G1 11=if num.length > 9 then num.drop 9++dgS num++[60]++opt else opt:=by rw [← hG1];split <;> rfl
   have hwd:(opt.length:Int)+((if num.length≤9 then 0 else num.length-9+2:Nat):Int)≤((14:Nat):Int):=by
    by_cases hc:num.length≤9
    ·rw [if_pos hc]
     rw [if_neg (show ¬ num.length > 9 by omega)] at hroom
     simp at hroom ⊢
     omega
    ·rw [if_neg hc]
     rw [if_pos (show num.length > 9 by omega)] at hroom
     simp at hroom ⊢
     omega
   have hlaid:Laid ⟨3,kind,state,sur,giv,num,nat,bir,sex,exp,opt,sec⟩ G2 14:=laid_of ok hwd
    (k0 0 (by omega) (by omega) (by omega) (by omega)) (k0 1 (by omega) (by omega) (by omega) (by omega)) (k0 5 (by omega) (by omega) (by omega) (by omega)) (k0 6 (by omega) (by omega) (by omega) (by omega)) (k0 7 (by omega) (by omega) (by omega) (by omega)) (k0 8 (by omega) (by omega) (by omega) (by omega)) (k0 9 (by omega) (by omega) (by omega) (by omega)) (k0 10 (by omega) (by omega) (by omega) (by omega))
    (by rw [k2 3 (by omega),← hG1];split <;> rfl) (by rw [k2 4 (by omega),← hG1];split;exact e4;rfl) (by rw [k2 11 (by omega)];exact e11)
   have hlines:[lineF (segsZ 3 0) (updF G2 14 (dgS s)),lineF (segsZ 3 1) (updF G2 14 (dgS s))]=buildZ ⟨3,kind,state,sur,giv,num,nat,bir,sex,exp,opt,sec⟩:=lines_book ok rfl hlaid (by rw [k0 2 (by omega) (by omega) (by omega) (by omega)];simp only;rw [hnm];rfl) (by simp only;rw [hnm];exact hNl) (by rw [← hG2];simp only;split;exact e12;show dgS (fitW 14 (G1 11))=_;rw [e11,if_neg (by simp at hmost;omega)]) s hs.symm
   have hcs:=comp2_spec 3 44 (.inr ⟨rfl,rfl⟩) G2
   rw [hs] at hcs
   have hdg:=hd3 s (by omega)
   have hdl:=qAz s
   refine ww ?_
   refine qAd (call2 (F:=G2) (F':=G2) (r0:=.d (.str s)) rfl rfl hcs rfl rfl rfl rfl rfl) rfl ?_
   refine wwc hdg ?_
   refine ww ?_
   refine qAd (call2 (F:=G2) (F':=updF G2 14 (dgS s)) rfl rfl (qBx 3 44 (.inr ⟨rfl,rfl⟩) G2 14 (by omega) (dgS s) (by show (digitF s).1.length≤_;omega)) rfl rfl rfl rfl rfl) rfl ?_
   generalize updF G2 14 (dgS s)=G3 at hlines ⊢
   refine ww ?_
   refine qAo ?_
   refine qBa 13 1 10 (es:=[]) (.inr ⟨rfl,rfl⟩) rfl ?_
   refine qAn (ι:=Nat) (fun i=>[(142,.bm 3 2),(143,.d (.int .i64 2)),(144,.d (.int .i64 (i:Int))),(13,.sl 1 (encSs ([lineF (segsZ 3 0) G3,lineF (segsZ 3 1) G3].take i)) (.right 10))]) (fun i=>[.row [.d (.int .i64 3),.d (.str kind),.d (.str state),.d (.str sur),.d (.str giv),.d (.str num),.d (.str nat),.d (.str bir),.d (.str sex),.d (.str exp),.d (.str opt),.d (.str sec)],.dead,.row (shB (layD 3) 2),.buf 1 2 [.rx 4 0 44,.rx 5 0 44],.row (byteAV (lineF (segsZ 3 0) G3)),.row (byteAV (lineF (segsZ 3 1) G3)),.dead,.dead,.dead,.dead,.right 1 i]) (fun i=>i≤2) (fun i=>2-i) 0 (by omega) ⟨.refl _,.refl _,.refl _,.refl _,trivial⟩ (HLe.refl _) ?_
   intro i hi
   refine ww ?_
   refine qAa rfl (fun c5=>?_) (fun c5=>?_)
   ·have hi3:i=0∨i=1:=by have h3:(i:Int) < 2:=(by simpa using c5);omega
    rcases hi3 with rfl | rfl
    ·refine ww ?_
     refine qAd (qAc (qAr (sz:=1) hT rfl rfl rfl rfl (by omega))) rfl ?_
     refine qAd (v:=.rx 4 0 44) (qBi hT rfl rfl rfl rfl rfl rfl) rfl ?_
     refine ww ?_
     refine qAd (qDm (s:=lineF (segsZ 3 0) G3) hT rfl rfl rfl (by omega) rfl (qAw G3 _) (rx_all _)) rfl ?_
     refine ww ?_
     refine qAd (qAi (i:=10) hT rfl rfl rfl rfl rfl rfl (by show (0+1)*(16+1)≤140737488355328;omega)) rfl ?_
     refine ww ?_
     exact ⟨1,by omega,by omega,⟨.refl _,.refl _,.refl _,.refl _,trivial⟩,HLe.refl _⟩
    ·refine ww ?_
     refine qAd (qAc (qAr (sz:=1) hT rfl rfl rfl rfl (by omega))) rfl ?_
     refine qAd (v:=.rx 5 0 44) (qBi hT rfl rfl rfl rfl rfl rfl) rfl ?_
     refine ww ?_
     refine qAd (qDm (s:=lineF (segsZ 3 1) G3) hT rfl rfl rfl (by omega) rfl (qAw G3 _) (rx_all _)) rfl ?_
     refine ww ?_
     refine qAd (qAi (i:=10) hT rfl rfl rfl rfl rfl rfl (by show (1+1)*(16+1)≤140737488355328;omega)) rfl ?_
     refine ww ?_
     exact ⟨2,by omega,by omega,⟨.refl _,.refl _,.refl _,.refl _,trivial⟩,HLe.refl _⟩
   have hi':i=2:=by have h3:¬ ((i:Int) < 2):=(by simpa using c5);omega
   subst hi'
   refine ww ?_
   exact rq ⟨rfl,rfl⟩ rfl (AV.le.tup ⟨AV.le.dat' (by rw [← hlines];rfl),.refl _,trivial⟩)
end Tdoc
/- The reference's file of a zone. -/
set_option maxHeartbeats 8000000
set_option maxRecDepth 100000
set_option linter.unusedVariables false
set_option linter.unusedSimpArgs false
namespace Tdoc
open Go Go.Proofs
theorem encSs_length (l:List (List UInt8)):(encSs l).length=l.length:=by simp [encSs]
theorem checkedS_le (s:List UInt8):(checkedS s).length≤s.length+1:=by unfold checkedS;rw [List.length_append];have:=qAz s;omega
theorem wideS_le (s:List UInt8) (n:Nat):(wideS s n).length≤s.length+n:=by rw [qBg];omega
theorem numberS_le (s:List UInt8):(numberS s).1.length≤s.length+20∧(numberS s).2.length≤s.length+2:=by
 unfold numberS
 split
 ·have h1:=checkedS_le (wideS s 9)
  have h2:=wideS_le s 9
  exact ⟨by simp only;omega,by simp⟩
 ·have:=qAz s
  refine ⟨?_,?_⟩
  ·show (s.take 9++[60]).length≤_
   rw [List.length_append,List.length_take];simp;omega
  ·show (s.drop 9++(digitF s).1++[60]).length≤_
   rw [List.length_append,List.length_append,List.length_drop];simp;omega
theorem buildZ_len {z:Zon} (hz:zLen z):(buildZ z).flatten.length≤200000∧(buildZ z).length≤3:=by
 obtain ⟨z1,z2,z3,z4,z5,z6,z7,z8,z9,z10,z11⟩:=hz
 have a1:=wideS_le z.kind 2
 have a2:=wideS_le z.state 3
 have a3:=checkedS_le z.bir
 have a4:=checkedS_le z.exp
 have a5:=wideS_le z.nat 3
 have a6:=numberS_le z.num
 have a7:=wideS_le ((numberS z.num).2++z.opt) 15
 have a8:=wideS_le ((numberS z.num).2++z.opt) 7
 have a9:=wideS_le z.opt 14
 have a10:=wideS_le z.sec 11
 have a11:(namesF z.sur z.giv (nameW z.fmt)).1.length≤39:=by
  have:=names_len z.sur z.giv (nameW z.fmt)
  have hw:nameW z.fmt≤39:=by unfold nameW;split <;> (try split) <;> omega
  omega
 rw [List.length_append] at a7 a8
 unfold buildZ
 split
 ·refine ⟨?_,by simp⟩
  have d1:=fun s=>qAz s
  simp only [List.flatten_cons,List.flatten_nil,List.length_append,List.length_nil]
  have:=d1 (cutS (wideS z.kind 2++wideS z.state 3++(numberS z.num).1++wideS ((numberS z.num).2++z.opt) 15) 5 30++cutS (checkedS z.bir++z.sex++checkedS z.exp++wideS z.nat 3++wideS z.sec 11) 0 7++cutS (checkedS z.bir++z.sex++checkedS z.exp++wideS z.nat 3++wideS z.sec 11) 8 15++cutS (checkedS z.bir++z.sex++checkedS z.exp++wideS z.nat 3++wideS z.sec 11) 18 29)
  omega
 ·split
  ·refine ⟨?_,by simp⟩
   simp only [List.flatten_cons,List.flatten_nil,List.length_append,List.length_nil]
   have:=qAz (cutS ((numberS z.num).1++wideS z.nat 3++checkedS z.bir++z.sex++checkedS z.exp++wideS ((numberS z.num).2++z.opt) 7) 0 10++cutS ((numberS z.num).1++wideS z.nat 3++checkedS z.bir++z.sex++checkedS z.exp++wideS ((numberS z.num).2++z.opt) 7) 13 20++cutS ((numberS z.num).1++wideS z.nat 3++checkedS z.bir++z.sex++checkedS z.exp++wideS ((numberS z.num).2++z.opt) 7) 21 35)
   omega
  ·have ho:(if z.opt=[] then [60] else (digitF (wideS z.opt 14)).1).length≤1:=by
    split
    ·simp
    ·exact qAz _
   refine ⟨?_,by simp⟩
   generalize (if z.opt=[] then [60] else (digitF (wideS z.opt 14)).1)=o at ho ⊢
   simp only [List.flatten_cons,List.flatten_nil,List.length_append,List.length_nil]
   have:=qAz (cutS ((numberS z.num).1++wideS z.nat 3++checkedS z.bir++z.sex++checkedS z.exp++wideS z.opt 14++o) 0 10++cutS ((numberS z.num).1++wideS z.nat 3++checkedS z.bir++z.sex++checkedS z.exp++wideS z.opt 14++o) 13 20++cutS ((numberS z.num).1++wideS z.nat 3++checkedS z.bir++z.sex++checkedS z.exp++wideS z.opt 14++o) 21 43)
   omega
theorem ZoneR_spec (z:Zon) (hz:zLen z):Spec Tryz.prog 27 [zAV z] [] (fun r h'=>r=.tup [.d (.sl 1 (encB (zoneF z).1)),.d (.int .i64 (zoneF z).2)]∧h'=[]):=by
 have hb:=Build_spec z hz
 unfold zoneF
 by_cases h0:validZ z=0
 case neg =>
  have hbe:buildF z=([],validZ z):=by unfold buildF;rw [if_pos h0]
  rw [if_pos h0]
  rw [hbe] at hb
  generalize validZ z=e at hb h0
  obtain ⟨fmt,kind,state,sur,giv,num,nat,bir,sex,exp,opt,sec⟩:=z
  unfold zAV zCells at hb ⊢
  simp only at hb ⊢
  refine qAb hT Tryz.func27 rfl rfl rfl rfl ?_;intro E hE
  refine qAo ?_
  refine qAt (qAk ?_)
  refine qAd (qCo (i0:=0) rfl rfl rfl) rfl ?_
  refine ww ?_
  refine wwc hb ?_
  refine ww ?_
  refine qAa rfl (fun c1=>?_) (fun c1=>?_)
  ·refine ww ?_
   exact wwr
  ·exact absurd (by simpa using c1) h0
 have hbe:buildF z=(buildZ z,0):=by unfold buildF;rw [if_neg (by simp [h0])]
 obtain ⟨hl1,hl2⟩:=buildZ_len hz
 rw [if_neg (by simp [h0])]
 rw [hbe] at hb
 generalize buildZ z=ls at hb hl1 hl2
 have hll:=encSs_length ls
 have hp:=qDr 24351 ls.flatten (by omega)
 have hw:=WrapR_spec 1 (by omega) [.mk 24351 ls.flatten []] (by simp) ⟨⟨by omega,by omega,by simp,trivial⟩,trivial⟩ (by simp [sizeL,sizeN])
 generalize wrapG 1 [.mk 24351 ls.flatten []]=w at hw
 obtain ⟨w,we⟩:=w
 simp only at hw ⊢
 obtain ⟨fmt,kind,state,sur,giv,num,nat,bir,sex,exp,opt,sec⟩:=z
 unfold zAV zCells at hb ⊢
 simp only at hb ⊢
 refine qAb hT Tryz.func27 rfl rfl rfl rfl ?_;intro E hE
 refine qAo ?_
 refine qAt (qAk ?_)
 refine qAd (qCo (i0:=0) rfl rfl rfl) rfl ?_
 refine ww ?_
 refine wwc hb ?_
 refine ww ?_
 refine qAa rfl (fun c1=>?_) (fun c1=>?_)
 ·exact absurd c1 (by simp)
 refine ww ?_
 refine qAn (ι:=Nat) (fun i=>[(4,.d (.sl 1 (encSs ls))),(6,.d (.str (ls.take i).flatten)),(7,.d (.int .i64 (i:Int)))]) (fun _=>[.row [.d (.int .i64 fmt),.d (.str kind),.d (.str state),.d (.str sur),.d (.str giv),.d (.str num),.d (.str nat),.d (.str bir),.d (.str sex),.d (.str exp),.d (.str opt),.d (.str sec)]]) (fun i=>i≤ls.length) (fun i=>ls.length-i) 0 (by omega) ⟨.refl _,.refl _,.refl _,trivial⟩ (HLe.refl _) ?_
 intro i hi
 have hwr:IntKind.i64.wrap ((i:Int)+1)=((i+1:Nat):Int):=by rw [qAe (by omega)];simp
 refine ww ?_
 refine qAa rfl (fun c2=>?_) (fun c2=>?_)
 ·have c2':i < ls.length:=by rw [hll] at c2;simpa using c2
  have hel:(encSs ls)[((i:Int)).toNat]?=some [.str ls[i]]:=by simp [encSs,c2']
  have htk:(ls.take (i+1)).flatten=(ls.take i).flatten++ls[i]:=by rw [List.take_succ_eq_append_getElem c2',List.flatten_append,List.flatten_cons,List.flatten_nil,List.append_nil]
  have hle:(ls.take i).flatten.length+(ls[i]).length≤200000:=by
   have h2:ls.flatten=(ls.take (i+1)).flatten++(ls.drop (i+1)).flatten:=by rw [← List.flatten_append,List.take_append_drop]
   rw [h2,htk,List.length_append,List.length_append] at hl1
   omega
  generalize ls[i]=x at hel htk hle
  refine ww ?_
  refine wwi hel ?_
  refine ww ?_
  exact ⟨i+1,by omega,by omega,⟨.refl _,AV.le.eq (by rw [htk];rfl),.int hwr,trivial⟩,HLe.refl _⟩
 ·have c2':i=ls.length:=by rw [hll] at c2;simp at c2;omega
  subst c2'
  rw [List.take_length]
  refine ww ?_
  refine qAd (strBytes_ok (s:=ls.flatten) hT rfl rfl rfl) rfl ?_
  refine ww ?_
  refine wwc hp ?_
  refine ww ?_
  refine wwc hw ?_
  refine ww ?_
  exact wwr
end Tdoc
/- zone.Build and datagroups.Zone of the program. -/
set_option maxHeartbeats 8000000
set_option maxRecDepth 100000
set_option linter.unusedVariables false
set_option linter.unusedSimpArgs false
namespace Tdoc
open Go Go.Proofs
theorem BuildP_spec (z:Zon) (hz:zLen z):Spec Tryz.prog 65 [zAV z] [] (fun r h'=>r=.tup [.d (.sl 1 (encSs (buildF z).1)),.d (.int .i64 (buildF z).2)]∧h'=[]):=by
 unfold buildF
 by_cases h0:validZ z=0
 ·rw [if_neg (by simp [h0])]
  have hf:=(validZ_ok h0).fmt
  have:z.fmt=1∨z.fmt=2∨z.fmt=3:=by omega
  rcases this with h | h | h
  ·exact BuildP_card z hz h0 h
  ·exact BuildP_small z hz h0 h
  ·exact BuildP_book z hz h0 h
 ·rw [if_pos h0]
  exact BuildP_bad z hz h0
theorem ZoneP_spec (z:Zon) (hz:zLen z):Spec Tryz.prog 26 [zAV z] [] (fun r h'=>r=.tup [.d (.sl 1 (encB (zoneF z).1)),.d (.int .i64 (zoneF z).2)]∧h'=[]):=by
 have hb:=BuildP_spec z hz
 unfold zoneF
 by_cases h0:validZ z=0
 case neg =>
  have hbe:buildF z=([],validZ z):=by unfold buildF;rw [if_pos h0]
  rw [if_pos h0]
  rw [hbe] at hb
  generalize validZ z=e at hb h0
  obtain ⟨fmt,kind,state,sur,giv,num,nat,bir,sex,exp,opt,sec⟩:=z
  unfold zAV zCells at hb ⊢
  simp only at hb ⊢
  refine qAb hT Tryz.func26 rfl rfl rfl rfl ?_;intro E hE
  refine ww ?_
  refine wwc hb ?_
  refine ww ?_
  refine qAa rfl (fun c1=>?_) (fun c1=>?_)
  ·refine ww ?_
   exact wwr
  ·exact absurd (by simpa using c1) h0
 have hbe:buildF z=(buildZ z,0):=by unfold buildF;rw [if_neg (by simp [h0])]
 obtain ⟨hl1,hl2⟩:=buildZ_len hz
 rw [if_neg (by simp [h0])]
 rw [hbe] at hb
 generalize buildZ z=ls at hb hl1 hl2
 have hll:=encSs_length ls
 have hw:=Wrap_spec 1 (by omega) [.mk 24351 ls.flatten []] (by simp) ⟨⟨by omega,by omega,by simp,trivial⟩,trivial⟩ (by simp [sizeL,sizeN]) (by have h1:=wrL_one_le 24351 ls.flatten [];have h2:(wrL ([]:List Node)).length=0:=rfl;omega)
 generalize wrapG 1 [.mk 24351 ls.flatten []]=w at hw
 obtain ⟨w,we⟩:=w
 simp only at hw ⊢
 obtain ⟨fmt,kind,state,sur,giv,num,nat,bir,sex,exp,opt,sec⟩:=z
 unfold zAV zCells at hb ⊢
 simp only at hb ⊢
 refine qAb hT Tryz.func26 rfl rfl rfl rfl ?_;intro E hE
 refine ww ?_
 refine wwc hb ?_
 refine ww ?_
 refine qAa rfl (fun c1=>?_) (fun c1=>?_)
 ·exact absurd c1 (by simp)
 refine ww ?_
 refine qAo ?_
 refine qBa 6 1 1 (es:=[]) (.inr ⟨rfl,rfl⟩) rfl ?_
 refine qAn (ι:=Nat) (fun i=>[(17,.d (.sl 1 (encSs ls))),(18,.d (.int .i64 (encSs ls).length)),(6,.sl 1 (encB (ls.take i).flatten) (.right 1)),(19,.d (.int .i64 (i:Int)))]) (fun i=>[.dead,.right 1 (encB (ls.take i).flatten).length]) (fun i=>i≤ls.length) (fun i=>ls.length-i) 0 (by omega) ⟨.refl _,.refl _,.refl _,.refl _,trivial⟩ ⟨trivial,.refl _,trivial⟩ ?_
 intro i hi
 have hwr:IntKind.i64.wrap ((i:Int)+1)=((i+1:Nat):Int):=by rw [qAe (by omega)];simp
 refine ww ?_
 refine qAa rfl (fun c2=>?_) (fun c2=>?_)
 ·have c2':i < ls.length:=by rw [hll] at c2;simpa using c2
  have hel:(encSs ls)[((i:Int)).toNat]?=some [.str ls[i]]:=by simp [encSs,c2']
  have htk:(ls.take (i+1)).flatten=(ls.take i).flatten++ls[i]:=by rw [List.take_succ_eq_append_getElem c2',List.flatten_append,List.flatten_cons,List.flatten_nil,List.append_nil]
  have hle:(ls.take i).flatten.length+(ls[i]).length≤200000:=by
   have h2:ls.flatten=(ls.take (i+1)).flatten++(ls.drop (i+1)).flatten:=by rw [← List.flatten_append,List.take_append_drop]
   rw [h2,htk,List.length_append,List.length_append] at hl1
   omega
  have heb:encB (ls.take i).flatten++(ls[i].map fun b=>[Dat.int .u8 (b.toNat:Int)])=encB (ls.take (i+1)).flatten:=by rw [htk];simp [encB]
  have hbl:=qAj (ls.take i).flatten
  generalize ls[i]=x at hel htk hle heb
  refine ww ?_
  refine wwi hel ?_
  refine ww ?_
  refine qAd (qAi (i:=1) hT rfl rfl rfl rfl rfl rfl (by show ((encB (ls.take i).flatten).length+(x.map fun b=>[Dat.int .u8 (b.toNat:Int)]).length)*(1+1)≤_;rw [hbl,List.length_map];omega)) rfl ?_
  refine ww ?_
  exact ⟨i+1,by omega,by omega,⟨.refl _,.refl _,.eq (congrArg (fun q=>AV.sl 1 q (.right 1)) heb),.int hwr,trivial⟩,⟨trivial,⟨rfl,congrArg List.length heb⟩,trivial⟩⟩
 ·have c2':i=ls.length:=by rw [hll] at c2;simp at c2;omega
  subst c2'
  rw [List.take_length]
  refine ww ?_
  refine wwc hw ?_
  refine ww ?_
  exact wwr
end Tdoc
/- biometrics.object of the program. -/
set_option maxHeartbeats 8000000
set_option maxRecDepth 100000
set_option linter.unusedVariables false
set_option linter.unusedSimpArgs false
namespace Tdoc
open Go Go.Proofs
theorem octB_one {n:Nat}:octB 1 n=[bOf (n:Int)]:=by
 have e:((n:Int) % 256).toNat=n % 256:=by omega
 unfold bOf;rw [e];rfl
theorem octB_two {n:Nat} (h:n < 65536):octB 2 n=[bOf ((n:Int) / 256),bOf (n:Int)]:=by
 have e1:((n:Int) % 256).toNat=n % 256:=by omega
 have e2:((n:Int) / 256 % 256).toNat=n / 256 % 256:=by omega
 unfold bOf;rw [e1,e2];rfl
def fv (k p a b q f:Nat):List (Nat×Nat×Nat):=[(129,1,k),(130,1,p),(131,4,a),(132,4,b),(133,1,q),(136,2,f)]
theorem headT_fv {k p a b q f:Nat} {data:List UInt8} (hf:f < 65536):headT ⟨(k:Int),(p:Int),(a:Int),(b:Int),(f:Int),(q:Int),data⟩=(fv k p a b q f).map fun x=>.mk (x.1:Int) (octB x.2.1 x.2.2) []:=by
 simp only [headT,fv,List.map_cons,List.map_nil,octB_one,octB_two hf,Int.toNat_natCast]
 rfl
theorem objP_spec (t:Tpl) (hv:validT t=0):Spec Tryz.prog 129 [tAV t] [] (fun r h'=>r=nAV (objT t)∧h'=[]):=by
 have ok:=validT_ok hv
 obtain ⟨kind,part,frm,til,fmt,qual,data⟩:=t
 simp only at ok
 obtain ⟨kind,rfl⟩:∃ n:Nat,kind=(n:Int):=⟨kind.toNat,by omega⟩
 obtain ⟨part,rfl⟩:∃ n:Nat,part=(n:Int):=⟨part.toNat,by omega⟩
 obtain ⟨frm,rfl⟩:∃ n:Nat,frm=(n:Int):=⟨frm.toNat,by omega⟩
 obtain ⟨til,rfl⟩:∃ n:Nat,til=(n:Int):=⟨til.toNat,by omega⟩
 obtain ⟨fmt,rfl⟩:∃ n:Nat,fmt=(n:Int):=⟨fmt.toNat,by omega⟩
 obtain ⟨qual,rfl⟩:∃ n:Nat,qual=(n:Int):=⟨qual.toNat,by omega⟩
 have hF:=fields_spec
 have hcl:=CloneB_spec (encB data) (by rw [qAj];omega)
 have hhd:=headT_fv (k:=kind) (p:=part) (a:=frm) (b:=til) (q:=qual) (f:=fmt) (data:=data) (by omega)
 generalize hL:fv kind part frm til qual fmt=L at hhd
 have hLl:L.length=6:=by rw [← hL];rfl
 have hV:([[.int .i64 (kind:Int)],[.int .i64 (part:Int)],[.int .i64 (frm:Int)],[.int .i64 (til:Int)],[.int .i64 (qual:Int)],[.int .i64 (fmt:Int)]]:List (List Dat))=L.map fun x=>[Dat.int .i64 (x.2.2:Int)]:=by rw [← hL];rfl
 have hFl:fieldsE=L.map fun x=>[Dat.int .i64 (x.1:Int),Dat.int .i64 (x.2.1:Int)]:=by rw [← hL];rfl
 have hok:∀ x∈L,x.2.1≤7∧x.2.2 < 256 ^ x.2.1:=fun x hx=>by
  rw [← hL] at hx
  simp only [fv,List.mem_cons,List.not_mem_nil,or_false] at hx
  rcases hx with rfl | rfl | rfl | rfl | rfl | rfl <;> simp only <;> omega
 rw [hFl] at hF
 unfold objT
 rw [hhd]
 unfold tAV tCells
 simp only
 generalize hN:(L.map fun x=>Node.mk (x.1:Int) (octB x.2.1 x.2.2) [])=N
 have hNl:N.length=6:=by rw [← hN];simp [hLl]
 have hel:=qAp N
 refine qAb hT Tryz.func129 rfl rfl rfl rfl ?_;intro E hE
 refine ww ?_
 rw [hV]
 have hEl:(L.map fun x=>[Dat.int .i64 (x.2.2:Int)]).length=6:=by simp [hLl]
 refine qAo (AW_acquireH 2 2 3 3 rfl rfl rfl ?_)
 refine qCx (ι:=Nat) (fun i=>[(1,.ptr 0 0),(2,.ptr 1 0),(3,.ptr 2 0),(22,.d (.sl 1 (L.map fun x=>[Dat.int .i64 (x.2.2:Int)]))),(23,.d (.int .i64 6)),(24,.d (.int .i64 (i:Int)))])
  (fun i=>[.row [.d (.int .i64 (kind:Int)),.d (.int .i64 (part:Int)),.d (.int .i64 (frm:Int)),.d (.int .i64 (til:Int)),.d (.int .i64 (fmt:Int)),.d (.int .i64 (qual:Int)),.d (.sl 1 (encB data))],.row [.d (.int .i64 0),.sl 1 [] .full,.sl 3 [] .full],
   .row [.d (.int .i64 161),.sl 1 [] .full,.sl 3 (encNs (N.take i)) (.right 3)],.right 3 (encNs (N.take i)).length])
  (fun i=>i≤6) (fun i=>6-i) 0 (by omega) ⟨.refl _,.refl _,.refl _,.dat,.int (by rw [hEl];rfl),.refl _,trivial⟩ (HLe.refl _) ?_
 intro i hi
 have hwr:IntKind.i64.wrap ((i:Int)+1)=((i+1:Nat):Int):=by rw [qAe (by omega)];simp
 refine ww ?_
 refine qAa rfl (fun c2=>?_) (fun c2=>?_)
 ·have c2':i < 6:=by have h3:(i:Int) < 6:=(by simpa using c2);omega
  have hiL:i < L.length:=by omega
  obtain ⟨⟨tg,m,v⟩,hget⟩:∃ x,L[i]?=some x:=⟨L[i],List.getElem?_eq_getElem hiL⟩
  obtain ⟨hm,hvv⟩:=hok _ (List.mem_of_getElem? hget)
  simp only at hm hvv
  have hO:=Octets_spec v m hm hvv
  have he1:(L.map fun x=>[Dat.int .i64 (x.2.2:Int)])[((i:Int)).toNat]?=some [.int .i64 (v:Int)]:=by rw [Int.toNat_natCast,List.getElem?_map,hget];rfl
  have he2:(L.map fun x=>[Dat.int .i64 (x.1:Int),Dat.int .i64 (x.2.1:Int)])[((i:Int)).toNat]?=some [.int .i64 (tg:Int),.int .i64 (m:Int)]:=by rw [Int.toNat_natCast,List.getElem?_map,hget];rfl
  have hNi:N[i]?=some (.mk (tg:Int) (octB m v) []):=by rw [← hN,List.getElem?_map,hget];rfl
  have htk:encNs (N.take (i+1))=encNs (N.take i)++[encN (.mk (tg:Int) (octB m v) [])]:=by
   rw [List.take_add_one,hNi,qCc];rfl
  have hnl:(encNs (N.take i)).length=i:=by rw [qAp,List.length_take];omega
  generalize (L.map fun x=>[Dat.int .i64 (x.2.2:Int)])=V1 at he1 ⊢
  generalize (L.map fun x=>[Dat.int .i64 (x.1:Int),Dat.int .i64 (x.2.1:Int)])=V2 at he2 hF
  refine ww ?_
  refine wwi he1 ?_
  refine ww ?_
  refine wwc hF ?_
  refine ww ?_
  refine wwi he2 ?_
  refine ww ?_
  refine wwc hO ?_
  refine ww ?_
  refine qAd (qAi (i:=3) hT rfl rfl rfl rfl rfl rfl (by show ((encNs (N.take i)).length+1)*(56+1)≤_;omega)) rfl ?_
  refine ww ?_
  refine ⟨i+1,[_],by omega,by omega,⟨.refl _,.refl _,.refl _,.refl _,.refl _,.int hwr,trivial⟩,⟨.refl _,.refl _,ObLe.row (by rw [htk];rfl),⟨rfl,congrArg List.length htk.symm⟩,.refl _,trivial⟩,Env.below_mono hE (by simp),rfl,rfl⟩
 ·have c2':i=6:=by have h3:¬ (i:Int) < 6:=(by simpa using c2);omega
  subst c2'
  rw [List.take_of_length_le (by omega)]
  refine wwn ?_
  refine qDa (l:=[(1,.ptr 0 0),(2,.ptr 1 0),(3,.ptr 2 0)]) (h':=[.row [.d (.int .i64 (kind:Int)),.d (.int .i64 (part:Int)),.d (.int .i64 (frm:Int)),.d (.int .i64 (til:Int)),.d (.int .i64 (fmt:Int)),.d (.int .i64 (qual:Int)),.d (.sl 1 (encB data))],.row [.d (.int .i64 0),.sl 1 [] .full,.sl 3 [] .full],.row [.d (.int .i64 161),.d (.sl 1 []),.d (.sl 3 (encNs N))],.dead]) ⟨.refl _,.refl _,.refl _,trivial⟩ ⟨.refl _,.refl _,⟨.refl _,.dat,.dat,trivial⟩,trivial,trivial⟩ ?_
  refine qBd (fun i=>bif Nat.beq i 0 then [2] else bif Nat.beq i 2 then [0] else bif Nat.beq i 7 then [1] else []) (fun i=>bif Nat.beq i 7 then [1] else []) mixed (by kernel_rfl) ?_
  refine wwg ?_
  refine wwdc hcl ?_
  refine wwg ?_
  refine qAq (os:=[]) (fun k hk1 hk2=>qBu hT rfl rfl) rfl ?_
  refine wwg ?_
  refine ww ?_
  exact wwr
end Tdoc
/- The program checks the kinds of templates, by a closure. -/
set_option maxHeartbeats 8000000
set_option maxRecDepth 100000
set_option linter.unusedVariables false
set_option linter.unusedSimpArgs false
namespace Tdoc
open Go Go.Proofs
def PredT (g:FuncId) (first cap:List AV) (H:List AObj) (p:Tpl→Bool) (l:List Tpl):Prop :=
 ∀ c,c∈l→Spec Tryz.prog g (first++([tAV c]++cap)) H (fun r h'=>r=.d (.bool (p c))∧h'=H)
theorem IndexFuncT_spec {l:List Tpl} {g:FuncId} {first cap:List AV} {H:List AObj} {p:Tpl→Bool} (hp:PredT g first cap H p l) (hH:lowH H.length H=true) (h1:lowL H.length first=true) (h2:lowL H.length cap=true) (hl:l.length≤1000000000) :
  Spec Tryz.prog 201 [.d (.sl 7 (encTs l)),.fn (.func g) first cap] H (fun r h'=>r=.d (.int .i64 (fIdx p l))∧h'=H):=by
 refine qAb hT Tryz.func201 rfl rfl rfl rfl ?_
 intro E hE
 have hlen:=qCh l
 refine ww ?_
 refine qAn (ι:=Nat) (fun k=>[(0,.d (.sl 7 (encTs l))),(1,.fn (.func g) first cap),(7,.d (.int .i64 (encTs l).length)),(8,.d (.int .i64 k))]) (fun _=>H) (fun k=>k≤l.length∧∀ j,(hj:j < k)→(hj2:j < l.length)→p l[j]=false) (fun k=>l.length-k) 0
  ⟨by omega,fun j hj=>by omega⟩ ⟨.refl _,.refl _,.refl _,.refl _,trivial⟩ (HLe.refl _) ?_
 intro k ⟨hk,hb⟩
 refine ww ?_
 refine qAa rfl (fun h1'=>?_) (fun h1'=>?_)
 ·have hlt:k < l.length:=by rw [hlen] at h1';simpa using h1'
  have hel:=encTs_at hlt
  have hpk:=hp l[k] (List.getElem_mem hlt)
  generalize hc:l[k]=c at hel hpk
  obtain ⟨c1,c2,c3,c4,c5,c6,c7⟩:=c
  unfold encT at hel
  simp only at hel
  refine ww ?_
  refine qAd (qAc (qAh hT rfl rfl rfl rfl (by omega) hel)) rfl ?_
  refine ww ?_
  refine AWk_opR (callSame (Q:=fun r h'=>r=.d (.bool (p ⟨c1,c2,c3,c4,c5,c6,c7⟩))∧h'=H) rfl rfl (hpk.mono (fun r h' ⟨q1,q2⟩=>⟨⟨q1,q2⟩,by rw [q1];rfl,by rw [q2];exact hH⟩)) hH rfl ?_) rfl ?_
  ·have:∀ (a b:List AV),lowL H.length a=true→lowL H.length b=true→lowL H.length (a++b)=true:=by
    intro a
    induction a with
    | nil=>intro b _ hb;exact hb
    | cons x a ih=>intro b ha hb;simp only [lowL,Bool.and_eq_true,List.cons_append] at ha ⊢;exact ⟨ha.1,ih b ha.2 hb⟩
   exact this _ _ h1 (this [_] _ (by simp [lowL,low,tAV,tCells]) h2)
  rintro v h' ⟨rfl,rfl⟩
  refine ww ?_
  refine qAa rfl (fun h2'=>?_) (fun h2'=>?_)
  ·refine ww ?_
   refine qAf rfl (.refl _) (by simp) rfl rfl hH ⟨?_,rfl⟩
   show AV.d (.int .i64 (k:Int))=_
   rw [fIdx_at hlt (by rw [hc];exact h2') (fun j hj hj2=>hb j hj hj2)]
  ·refine ww ?_
   refine ⟨k+1,⟨by omega,fun j hj hj2=>?_⟩,by omega,⟨.refl _,.refl _,.refl _,AV.le.eq ?_,trivial⟩,HLe.refl _⟩
   ·by_cases hjk:j=k
    ·subst hjk;rw [hc];exact h2'
    ·exact hb j (by omega) hj2
   ·show AV.d (.int .i64 (IntKind.i64.wrap ((k:Int)+1)))=_
    rw [qAe (by omega)];rfl
 ·have hge:k=l.length:=by rw [hlen] at h1';simp at h1';omega
  refine ww ?_
  refine qAf rfl (.refl _) (by simp) rfl rfl hH ⟨?_,rfl⟩
  show AV.d (.int .i64 (-1))=_
  rw [fIdx_none (fun j hj=>hb j (by omega) hj)]
theorem ContainsFuncT_spec {l:List Tpl} {g:FuncId} {first cap:List AV} {H:List AObj} {p:Tpl→Bool} (hp:PredT g first cap H p l) (hH:lowH H.length H=true) (h1:lowL H.length first=true) (h2:lowL H.length cap=true) (hl:l.length≤1000000000) :
  Spec Tryz.prog 130 [.d (.sl 7 (encTs l)),.fn (.func g) first cap] H (fun r h'=>r=.d (.bool (l.any p))∧h'=H):=by
 refine qAb hT Tryz.func130 rfl rfl rfl rfl ?_
 intro E hE
 have hs:=IndexFuncT_spec hp hH h1 h2 hl
 refine ww ?_
 refine AWk_opR (callSame (Q:=fun r h'=>r=.d (.int .i64 (fIdx p l))∧h'=H) rfl rfl (hs.mono (fun r h' ⟨q1,q2⟩=>⟨⟨q1,q2⟩,by rw [q1];rfl,by rw [q2];exact hH⟩)) hH rfl ?_) rfl ?_
 ·simp [lowL,low,h1,h2]
 rintro v h' ⟨rfl,rfl⟩
 refine ww ?_
 refine qAf rfl (.refl _) (by simp) rfl rfl hH ⟨?_,rfl⟩
 show AV.d (.bool (decide (fIdx p l≥0)))=_
 rw [fIdx_any]
theorem kinds1_spec (n:Int) (hn : -9223372036854775807≤n∧n≤9223372036854775807) (x:Tpl):Spec Tryz.prog 131 ([]++([tAV x]++[.ptr 0 0])) [.row [.d (.int .i64 n)]] (fun r h'=>r=.d (.bool (x.kind != n-1))∧h'=[.row [.d (.int .i64 n)]]):=by
 obtain ⟨c1,c2,c3,c4,c5,c6,c7⟩:=x
 unfold tAV tCells
 simp only
 have hwn:IntKind.i64.wrap (n-1)=n-1:=qAe (by omega)
 refine qAb hT Tryz.func131 rfl rfl rfl rfl ?_;intro E hE
 refine qAo ?_
 refine wwe ?_
 refine qAt (qAk ?_)
 refine qAd (qCo (i0:=1) rfl rfl rfl) rfl ?_
 refine ww ?_
 rw [hwn]
 exact qAf rfl (.refl _) rfl rfl rfl rfl ⟨rfl,rfl⟩
theorem kinds_spec (n:Int) (hn : -9223372036854775807≤n∧n≤9223372036854775807) (l:List Tpl) (hl:l.length≤1000000):Spec Tryz.prog 70 [.d (.int .i64 n),.d (.sl 7 (encTs l))] [] (fun r h'=>r=.d (.bool (fitsT n l))∧h'=[]):=by
 have c1:=ContainsFuncT_spec (p:=fun x=>x.kind != n-1) (l:=l) (fun x hx=>kinds1_spec n hn x) rfl rfl rfl (by omega)
 have hf:fitsT n l=!(l.any fun x=>x.kind != n-1):=by
  unfold fitsT
  rw [List.not_any_eq_all_not]
  congr 1
  funext x
  rw [Bool.eq_iff_iff];simp
 rw [hf]
 generalize (l.any fun x=>x.kind != n-1)=b at c1
 refine qAb hT Tryz.func70 rfl rfl rfl rfl ?_;intro E hE
 refine qAo ?_
 refine wwe ?_
 refine qAt (qAk ?_)
 refine qAd (qCo (i0:=0) rfl rfl rfl) rfl ?_
 refine ww ?_
 refine qAd (callS1 rfl rfl (c1) [0] (by decide) rfl rfl rfl rfl rfl rfl rfl) rfl ?_
 refine ww ?_
 exact wwr
end Tdoc
/- The program reads templates: biometrics.Decode = decTs. -/
set_option linter.unusedVariables false
set_option linter.unusedSimpArgs false
namespace Tdoc
open Go Go.Proofs
end Tdoc
/- The program opens a group of templates: datagroups.OpenBiometric = bioO. -/
set_option maxHeartbeats 8000000
set_option maxRecDepth 100000
set_option linter.unusedVariables false
set_option linter.unusedSimpArgs false
namespace Tdoc
open Go Go.Proofs
theorem biometric_spec (n:Int):Spec Tryz.prog 68 [.d (.int .i64 n)] [] (fun r h'=>r=.d (.bool (decide (n≥2)&&decide (n≤4)))∧h'=[]):=by
 refine qAb hT Tryz.func68 rfl rfl rfl rfl ?_;intro E hE
 refine ww ?_
 exact wwr
end Tdoc
/- biometrics.Encode and datagroups.Biometric of the program. -/
set_option maxHeartbeats 8000000
set_option maxRecDepth 100000
set_option linter.unusedVariables false
set_option linter.unusedSimpArgs false
namespace Tdoc
open Go Go.Proofs
theorem encTR_eq (l:List Tpl):encTR l=if chkTs l≠0 then ([],chkTs l) else ([.mk 32609 [] (kidsT l)],0):=by
 unfold encTR chkTs
 by_cases h:l.length < 1∨l.length > 8
 ·rw [if_pos h,if_pos h,if_pos (by decide)]
 ·rw [if_neg h,if_neg h]
theorem chkTs_valid {l:List Tpl} (h:chkTs l=0):1≤l.length∧l.length≤8∧firstT l=0:=by
 unfold chkTs at h
 split at h
 ·omega
 ·exact ⟨by omega,by omega,h⟩
theorem firstT_get:∀ {l:List Tpl},firstT l=0→∀ {i:Nat} (hi:i < l.length),validT l[i]=0
 | [],_,_,hi=>by simp at hi
 | t::l,h,i,hi=>by
  rw [firstT] at h
  have hv:validT t=0:=by
   by_cases hv:validT t=0
   ·exact hv
   ·rw [if_pos hv] at h;exact h
  rw [if_neg (by simp [hv])] at h
  cases i with
  | zero=>exact hv
  | succ i=>exact firstT_get h (by simpa using hi)
theorem encTP_spec (l:List Tpl) (hl:l.length≤1000000):Spec Tryz.prog 69 [.d (.sl 7 (encTs l))] [] (fun r h'=>r=.tup [.d (.sl 3 (encNs (encTR l).1)),.d (.int .i64 (encTR l).2)]∧h'=[]):=by
 have hll:=qCh l
 have hc:=checkT_spec l hl
 have hcv:=@chkTs_valid l
 rw [encTR_eq]
 generalize chkTs l=e at hc hcv
 refine qAb hT Tryz.func69 rfl rfl rfl rfl ?_;intro E hE
 refine ww ?_
 refine wwc hc ?_
 refine ww ?_
 refine qAa rfl (fun c1=>?_) (fun c1=>?_)
 ·have c1':e≠0:=by simpa using c1
  rw [if_pos c1']
  refine ww ?_
  exact wwr
 have c1':e=0:=by simpa using c1
 obtain ⟨g1,g2,g3⟩:=hcv c1'
 subst c1'
 rw [if_neg (by simp)]
 have hb1:encNs [.mk 2 [bOf (l.length:Int)] []]=[[Dat.int .i64 2,.sl 1 [[.int .u8 (IntKind.u8.wrap (l.length:Int))]],.sl 3 []]]:=by rw [bOf_wrap];rfl
 refine ww ?_
 refine qAo (AW_acquireH 0 2 1 3 rfl rfl rfl ?_)
 refine qCx (ι:=Nat) (fun i=>[(20,.d (.sl 7 (encTs l))),(5,.ptr 0 0),(21,.d (.int .i64 (l.length:Int))),(22,.d (.int .i64 (i:Int)))])
  (fun i=>[.row [.d (.int .i64 32609),.sl 1 [] .full,.sl 3 (encNs (.mk 2 [bOf (l.length:Int)] []::(l.take i).map objT)) (.right 1)],.right 3 (encNs (.mk 2 [bOf (l.length:Int)] []::(l.take i).map objT)).length])
  (fun i=>i≤l.length) (fun i=>l.length-i) 0 (by omega) ⟨.refl _,.refl _,.int (by rw [hll]),.refl _,trivial⟩ ⟨ObLe.row (by rw [hll];show _=[_,_,AV.sl 3 (encNs [.mk 2 [bOf (l.length:Int)] []]) (.right 1)];rw [hb1];rfl),⟨rfl,rfl⟩,trivial⟩ ?_
 intro i hi
 have hwr:IntKind.i64.wrap ((i:Int)+1)=((i+1:Nat):Int):=by rw [qAe (by omega)];simp
 have hkl:(encNs (.mk 2 [bOf (l.length:Int)] []::(l.take i).map objT)).length≤9:=by rw [qAp];simp;omega
 refine ww ?_
 refine qAa rfl (fun c2=>?_) (fun c2=>?_)
 ·have c2':i < l.length:=by have h3:(i:Int) < (l.length:Int):=(by simpa using c2);omega
  have hel:=encTs_at c2'
  have htk:encNs (.mk 2 [bOf (l.length:Int)] []::(l.take (i+1)).map objT)=encNs (.mk 2 [bOf (l.length:Int)] []::(l.take i).map objT)++[encN (objT l[i])]:=by
   rw [List.take_succ_eq_append_getElem c2',List.map_append]
   show encNs ((.mk 2 [bOf (l.length:Int)] []::(l.take i).map objT)++[objT l[i]])=_
   rw [qCc];rfl
  have ho:=objP_spec l[i] (firstT_get g3 c2')
  generalize l[i]=t at hel ho htk
  generalize encNs (.mk 2 [bOf (l.length:Int)] []::(l.take i).map objT)=ks at hkl htk ⊢
  unfold tAV tCells at ho
  refine ww ?_
  refine wwi hel ?_
  refine wwn ?_
  show AW Tryz.prog E _ _ _ _ _
  refine qBd (fun i=>bif Nat.beq i 1 then [0] else bif Nat.beq i 2 then [2] else bif Nat.beq i 5 then [1] else bif Nat.beq i 7 then [0] else []) (fun i=>bif Nat.beq i 5 then [1] else bif Nat.beq i 7 then [0] else []) mixed (by kernel_rfl) ?_
  refine wwg ?_
  refine wwdc ho ?_
  refine wwg ?_
  refine qAq (os:=[]) (fun k hk1 hk2=>qBu hT rfl rfl) rfl ?_
  refine qAq (v:=.sl 3 (ks++[encN (objT t)]) (.right 1)) (os:=[.right 3 (ks++[encN (objT t)]).length]) (fun k hk1 hk2=>qAi (i:=1) hT rfl rfl rfl rfl ((hk2 1 List.mem_cons_self).trans rfl) rfl (by show (ks.length+1)*(56+1)≤_;omega)) rfl ?_
  refine wwg ?_
  refine ww ?_
  refine ⟨i+1,[_],by omega,by omega,⟨.refl _,.refl _,.refl _,.int hwr,trivial⟩,⟨ObLe.row (by rw [htk]),⟨rfl,congrArg List.length htk.symm⟩,.refl _,trivial⟩,Env.below_mono hE (by simp),rfl,rfl⟩
 ·have c2':i=l.length:=by have h3:¬ (i:Int) < (l.length:Int):=(by simpa using c2);omega
  subst c2'
  rw [List.take_length]
  show AW Tryz.prog E _ _ _ _ _
  refine qDa (l:=[(5,.ptr 0 0)]) (h':=[.row [.d (.int .i64 32609),.d (.sl 1 []),.d (.sl 3 (encNs (kidsT l)))],.dead]) ⟨.refl _,trivial⟩ ⟨⟨.refl _,.dat,.dat,trivial⟩,trivial,trivial⟩ ?_
  refine ww ?_
  exact wwr
theorem wrHead (t:Tpl):(wrL (headT t)).length≤100:=by
 unfold headT
 have h1:=qAl 129 [bOf t.kind] [] [.mk 130 [bOf t.part] [],.mk 131 (octB 4 t.frm.toNat) [],.mk 132 (octB 4 t.til.toNat) [],.mk 133 [bOf t.qual] [],.mk 136 [bOf (t.fmt / 256),bOf t.fmt] []]
 have h2:=qAl 130 [bOf t.part] [] [.mk 131 (octB 4 t.frm.toNat) [],.mk 132 (octB 4 t.til.toNat) [],.mk 133 [bOf t.qual] [],.mk 136 [bOf (t.fmt / 256),bOf t.fmt] []]
 have h3:=qAl 131 (octB 4 t.frm.toNat) [] [.mk 132 (octB 4 t.til.toNat) [],.mk 133 [bOf t.qual] [],.mk 136 [bOf (t.fmt / 256),bOf t.fmt] []]
 have h4:=qAl 132 (octB 4 t.til.toNat) [] [.mk 133 [bOf t.qual] [],.mk 136 [bOf (t.fmt / 256),bOf t.fmt] []]
 have h5:=qAl 133 [bOf t.qual] [] [.mk 136 [bOf (t.fmt / 256),bOf t.fmt] []]
 have h6:=qAl 136 [bOf (t.fmt / 256),bOf t.fmt] [] []
 have h0:(wrL ([]:List Node)).length=0:=rfl
 simp only [List.length_cons,List.length_nil,qCk] at *
 omega
theorem wrObj (t:Tpl) (r:List Node) (hv:validT t=0):(wrL (objT t::r)).length≤2000+(wrL r).length:=by
 have ok:=validT_ok hv
 unfold objT
 have h1:=qAl 32608 [] [.mk 161 [] (headT t),.mk 24366 t.data []] r
 have h2:=qAl 161 [] (headT t) [.mk 24366 t.data []]
 have h3:=qAl 24366 t.data [] []
 have h4:=wrHead t
 have h0:(wrL ([]:List Node)).length=0:=rfl
 simp only [List.length_nil] at *
 omega
theorem wrObjs:∀ (l:List Tpl),firstT l=0→(wrL (l.map objT)).length≤l.length*2000
 | [],_=>by show (0:Nat)≤_;omega
 | t::l,h=>by
  have hv:=firstT_get h (i:=0) (by simp)
  have hl:firstT l=0:=by
   rw [firstT,if_neg (by show ¬ validT t≠0;exact fun hh=>hh hv)] at h;exact h
  have h1:=wrObj t (l.map objT) hv
  have h2:=wrObjs l hl
  simp only [List.map_cons,List.length_cons]
  omega
theorem wrEnc (l:List Tpl):(wrL (encTR l).1).length≤100000:=by
 have h0:(wrL ([]:List Node)).length=0:=rfl
 rw [encTR_eq]
 by_cases hc:chkTs l=0
 ·rw [if_neg (by simp [hc])]
  obtain ⟨g1,g2,g3⟩:=chkTs_valid hc
  have h1:=wrObjs l g3
  have h2:=qAl 32609 [] (kidsT l) []
  have h3:=qAl 2 [bOf (l.length:Int)] [] (l.map objT)
  unfold kidsT at h2 ⊢
  simp only [List.length_nil,List.length_singleton] at *
  omega
 ·rw [if_pos hc]
  simp only [h0];omega
theorem bioP_spec (n:Int) (hn : -9223372036854775807≤n∧n≤9223372036854775807) (l:List Tpl) (hl:l.length≤1000000):Spec Tryz.prog 28 [.d (.int .i64 n),.d (.sl 7 (encTs l))] [] (fun r h'=>r=.tup [.d (.sl 1 (encB (bioF n l).1)),.d (.int .i64 (bioF n l).2)]∧h'=[]):=by
 have he:=encTP_spec l hl
 have hft:=kinds_spec n hn l hl
 have hbm:=biometric_spec n
 obtain ⟨f1,f2,f3⟩:=encTR_fit l
 have hw:=Wrap_spec n (by omega) (encTR l).1 (by omega) f1 (by omega) (by have:=wrEnc l;omega)
 unfold bioF
 generalize encTR l=q at he hw
 obtain ⟨k,e⟩:=q
 simp only at he hw ⊢
 generalize fitsT n l=ft at hft
 generalize wrapG n k=w at hw
 obtain ⟨w,we⟩:=w
 simp only at hw ⊢
 generalize encNs k=ks at he hw
 generalize encTs l=ts at he hft
 refine qAb hT Tryz.func28 rfl rfl rfl rfl ?_;intro E hE
 refine ww ?_
 refine wwc hbm ?_
 refine ww ?_
 refine qAa rfl (fun c1=>?_) (fun c1=>?_)
 ·have c1':¬ (n≥2∧n≤4):=by simp only [Bool.not_eq_true',Bool.and_eq_false_iff,decide_eq_false_iff_not] at c1;omega
  rw [if_pos (by omega)]
  refine ww ?_
  exact wwr
 have c1':¬ (n < 2∨n > 4):=by simp only [Bool.not_eq_false',Bool.and_eq_true,decide_eq_true_eq] at c1;omega
 rw [if_neg c1']
 refine ww ?_
 refine wwc he ?_
 refine ww ?_
 refine qAa rfl (fun c2=>?_) (fun c2=>?_)
 ·have c2':e≠0:=by simpa using c2
  rw [if_pos c2']
  refine ww ?_
  exact wwr
 have c2':¬ e≠0:=by simpa using c2
 rw [if_neg c2']
 refine ww ?_
 refine wwc hft ?_
 refine ww ?_
 refine qAa rfl (fun c3=>?_) (fun c3=>?_)
 ·have c3':ft=false:=by simpa using c3
  rw [if_pos c3']
  refine ww ?_
  exact wwr
 have c3':¬ ft=false:=by simpa using c3
 rw [if_neg c3']
 refine ww ?_
 refine wwc hw ?_
 refine ww ?_
 exact wwr
end Tdoc
/- The program checks details. -/
set_option maxHeartbeats 8000000
set_option maxRecDepth 100000
set_option linter.unusedVariables false
set_option linter.unusedSimpArgs false
namespace Tdoc
open Go Go.Proofs
def deT (n:Int):List Int:=if n=11 then [24334,24336,24337,24386,24338,24339,24340,24341] else [24345,24358,24347,24405]
theorem deT_has (n t:Int):(deT n).any (fun x=>t == x)=belongsF n t:=by
 unfold deT belongsF
 split
 ·rw [Bool.eq_iff_iff];simp;omega
 ·rw [Bool.eq_iff_iff];simp
theorem detailed_spec (n:Int) (hn:n=11∨n=12):Spec Tryz.prog 73 [.d (.int .i64 n)] [] (fun r h'=>r=.d (.sl 1 (encI (deT n)))∧h'=[]):=by
 by_cases h:n=11
 ·subst h
  refine qAb hT Tryz.func73 rfl rfl rfl rfl ?_;intro E hE
  refine ww ?_
  refine qAa rfl (fun c1=>?_) (fun c1=>?_)
  ·refine ww ?_
   exact wwr
  ·exact absurd c1 (by simp)
 ·obtain rfl:n=12:=by omega
  refine qAb hT Tryz.func73 rfl rfl rfl rfl ?_;intro E hE
  refine ww ?_
  refine qAa rfl (fun c1=>?_) (fun c1=>?_)
  ·exact absurd c1 (by simp)
  refine ww ?_
  refine qAa rfl (fun c2=>?_) (fun c2=>?_)
  ·refine ww ?_
   exact wwr
  ·exact absurd c2 (by simp)
theorem detailed_none (n:Int) (hn:¬ (n=11∨n=12)):Spec Tryz.prog 73 [.d (.int .i64 n)] [] (fun r h'=>r=.nils∧h'=[]):=by
 refine qAb hT Tryz.func73 rfl rfl rfl rfl ?_;intro E hE
 refine ww ?_
 refine qAa rfl (fun c1=>?_) (fun c1=>?_)
 ·exfalso;have:n=11:=by simpa using c1
  omega
 refine ww ?_
 refine qAa rfl (fun c2=>?_) (fun c2=>?_)
 ·exfalso;have:n=12:=by simpa using c2
  omega
 refine wwe ?_
 refine ww ?_
 exact wwr
theorem IndexI_spec (l:List Int) (v:Int) (hl:l.length≤1000000):Spec Tryz.prog 202 [.d (.sl 1 (encI l)),.d (.int .i64 v)] [] (fun r h'=>r=.d (.int .i64 (fIdx (fun x=>v == x) l))∧h'=[]):=by
 have hlen:(encI l).length=l.length:=by simp [encI]
 refine qAb hT Tryz.func202 rfl rfl rfl rfl ?_;intro E hE
 refine ww ?_
 refine qAn (ι:=Nat) (fun k=>[(0,.d (.sl 1 (encI l))),(1,.d (.int .i64 v)),(7,.d (.int .i64 ((encI l).length:Int))),(8,.d (.int .i64 (k:Int)))]) (fun _=>[]) (fun k=>k≤l.length∧∀ j,(hj:j < k)→(hj2:j < l.length)→(v == l[j])=false) (fun k=>l.length-k) 0
  ⟨by omega,fun j hj=>by omega⟩ ⟨.refl _,.refl _,.refl _,.refl _,trivial⟩ (HLe.refl _) ?_
 rintro k ⟨hk,hb⟩
 have hwr:IntKind.i64.wrap ((k:Int)+1)=((k+1:Nat):Int):=by rw [qAe (by omega)];omega
 refine ww ?_
 refine qAa rfl (fun c1=>?_) (fun c1=>?_)
 ·have hlt:k < l.length:=by rw [hlen] at c1;simpa using c1
  have hel:(encI l)[((k:Int)).toNat]?=some [.int .i64 l[k]]:=by simp [encI,hlt]
  generalize hc:l[k]=c at hel
  refine ww ?_
  refine wwi hel ?_
  refine ww ?_
  refine qAa rfl (fun c2=>?_) (fun c2=>?_)
  ·refine ww ?_
   refine qAf rfl (.refl _) rfl rfl rfl rfl ⟨?_,rfl⟩
   show AV.d (.int .i64 (k:Int))=_
   rw [fIdx_at (p:=fun x=>v == x) hlt (by rw [hc];exact c2) (fun j hj hj2=>hb j hj hj2)]
  ·refine ww ?_
   refine ⟨k+1,⟨by omega,fun j hj hj2=>?_⟩,by omega,⟨.refl _,.refl _,.refl _,.int hwr,trivial⟩,HLe.refl _⟩
   by_cases hjk:j=k
   ·subst hjk;rw [hc];exact c2
   ·exact hb j (by omega) hj2
 ·have hge:k=l.length:=by rw [hlen] at c1;simp at c1;omega
  refine ww ?_
  refine qAf rfl (.refl _) rfl rfl rfl rfl ⟨?_,rfl⟩
  show AV.d (.int .i64 (-1))=_
  rw [fIdx_none (p:=fun x=>v == x) (fun j hj=>hb j (by omega) hj)]
theorem ContainsI_spec (l:List Int) (v:Int) (hl:l.length≤1000000):Spec Tryz.prog 134 [.d (.sl 1 (encI l)),.d (.int .i64 v)] [] (fun r h'=>r=.d (.bool (l.any fun x=>v == x))∧h'=[]):=by
 have hs:=IndexI_spec l v hl
 rw [← fIdx_any]
 generalize fIdx (fun x=>v == x) l=k at hs
 refine qAb hT Tryz.func134 rfl rfl rfl rfl ?_;intro E hE
 refine ww ?_
 refine wwc hs ?_
 refine ww ?_
 exact wwr
end Tdoc
/- The program checks details: datagroups.check. -/
set_option maxHeartbeats 8000000
set_option maxRecDepth 100000
set_option linter.unusedVariables false
set_option linter.unusedSimpArgs false
namespace Tdoc
open Go Go.Proofs
def dAV (x:Det):AV:=.agg [.d (.int .i64 x.tag),.d (.str x.text)]
def PredD (g:FuncId) (first cap:List AV) (H:List AObj) (p:Det→Bool) (l:List Det):Prop :=
 ∀ c,c∈l→Spec Tryz.prog g (first++([dAV c]++cap)) H (fun r h'=>r=.d (.bool (p c))∧h'=H)
theorem IndexFuncD_spec {l:List Det} {g:FuncId} {first cap:List AV} {H:List AObj} {p:Det→Bool} (hp:PredD g first cap H p l) (hH:lowH H.length H=true) (h1:lowL H.length first=true) (h2:lowL H.length cap=true) (hl:l.length≤1000000000) :
  Spec Tryz.prog 203 [.d (.sl 2 (encDs l)),.fn (.func g) first cap] H (fun r h'=>r=.d (.int .i64 (fIdx p l))∧h'=H):=by
 refine qAb hT Tryz.func203 rfl rfl rfl rfl ?_
 intro E hE
 have hlen:=qBs l
 refine ww ?_
 refine qAn (ι:=Nat) (fun k=>[(0,.d (.sl 2 (encDs l))),(1,.fn (.func g) first cap),(7,.d (.int .i64 (encDs l).length)),(8,.d (.int .i64 k))]) (fun _=>H) (fun k=>k≤l.length∧∀ j,(hj:j < k)→(hj2:j < l.length)→p l[j]=false) (fun k=>l.length-k) 0
  ⟨by omega,fun j hj=>by omega⟩ ⟨.refl _,.refl _,.refl _,.refl _,trivial⟩ (HLe.refl _) ?_
 intro k ⟨hk,hb⟩
 refine ww ?_
 refine qAa rfl (fun h1'=>?_) (fun h1'=>?_)
 ·have hlt:k < l.length:=by rw [hlen] at h1';simpa using h1'
  have hel:=encDs_at hlt
  have hpk:=hp l[k] (List.getElem_mem hlt)
  generalize hc:l[k]=c at hel hpk
  obtain ⟨c1,c2⟩:=c
  unfold encD at hel
  simp only at hel
  refine ww ?_
  refine qAd (qAc (qAh hT rfl rfl rfl rfl (by omega) hel)) rfl ?_
  refine ww ?_
  refine AWk_opR (callSame (Q:=fun r h'=>r=.d (.bool (p ⟨c1,c2⟩))∧h'=H) rfl rfl (hpk.mono (fun r h' ⟨q1,q2⟩=>⟨⟨q1,q2⟩,by rw [q1];rfl,by rw [q2];exact hH⟩)) hH rfl ?_) rfl ?_
  ·have:∀ (a b:List AV),lowL H.length a=true→lowL H.length b=true→lowL H.length (a++b)=true:=by
    intro a
    induction a with
    | nil=>intro b _ hb;exact hb
    | cons x a ih=>intro b ha hb;simp only [lowL,Bool.and_eq_true,List.cons_append] at ha ⊢;exact ⟨ha.1,ih b ha.2 hb⟩
   exact this _ _ h1 (this [_] _ (by simp [lowL,low,dAV]) h2)
  rintro v h' ⟨rfl,rfl⟩
  refine ww ?_
  refine qAa rfl (fun h2'=>?_) (fun h2'=>?_)
  ·refine ww ?_
   refine qAf rfl (.refl _) (by simp) rfl rfl hH ⟨?_,rfl⟩
   show AV.d (.int .i64 (k:Int))=_
   rw [fIdx_at hlt (by rw [hc];exact h2') (fun j hj hj2=>hb j hj hj2)]
  ·refine ww ?_
   refine ⟨k+1,⟨by omega,fun j hj hj2=>?_⟩,by omega,⟨.refl _,.refl _,.refl _,AV.le.eq ?_,trivial⟩,HLe.refl _⟩
   ·by_cases hjk:j=k
    ·subst hjk;rw [hc];exact h2'
    ·exact hb j (by omega) hj2
   ·show AV.d (.int .i64 (IntKind.i64.wrap ((k:Int)+1)))=_
    rw [qAe (by omega)];rfl
 ·have hge:k=l.length:=by rw [hlen] at h1';simp at h1';omega
  refine ww ?_
  refine qAf rfl (.refl _) (by simp) rfl rfl hH ⟨?_,rfl⟩
  show AV.d (.int .i64 (-1))=_
  rw [fIdx_none (fun j hj=>hb j (by omega) hj)]
theorem ContainsFuncD_spec {l:List Det} {g:FuncId} {first cap:List AV} {H:List AObj} {p:Det→Bool} (hp:PredD g first cap H p l) (hH:lowH H.length H=true) (h1:lowL H.length first=true) (h2:lowL H.length cap=true) (hl:l.length≤1000000000) :
  Spec Tryz.prog 135 [.d (.sl 2 (encDs l)),.fn (.func g) first cap] H (fun r h'=>r=.d (.bool (l.any p))∧h'=H):=by
 refine qAb hT Tryz.func135 rfl rfl rfl rfl ?_
 intro E hE
 have hs:=IndexFuncD_spec hp hH h1 h2 hl
 refine ww ?_
 refine AWk_opR (callSame (Q:=fun r h'=>r=.d (.int .i64 (fIdx p l))∧h'=H) rfl rfl (hs.mono (fun r h' ⟨q1,q2⟩=>⟨⟨q1,q2⟩,by rw [q1];rfl,by rw [q2];exact hH⟩)) hH rfl ?_) rfl ?_
 ·simp [lowL,low,h1,h2]
 rintro v h' ⟨rfl,rfl⟩
 refine ww ?_
 refine qAf rfl (.refl _) (by simp) rfl rfl hH ⟨?_,rfl⟩
 show AV.d (.bool (decide (fIdx p l≥0)))=_
 rw [fIdx_any]
theorem check1_spec (t:Int) (s:List UInt8) (x:Det):Spec Tryz.prog 136 ([]++([dAV x]++[.ptr 0 0])) [.row [.d (.int .i64 t),.d (.str s)]] (fun r h'=>r=.d (.bool (x.tag == t))∧h'=[.row [.d (.int .i64 t),.d (.str s)]]):=by
 obtain ⟨c1,c2⟩:=x
 unfold dAV
 simp only
 refine qAb hT Tryz.func136 rfl rfl rfl rfl ?_;intro E hE
 refine qAo ?_
 refine wwe ?_
 refine qAt (qAk ?_)
 refine qAd (qCo (i0:=1) rfl rfl rfl) rfl ?_
 refine ww ?_
 exact qAf rfl (.refl _) rfl rfl rfl rfl ⟨rfl,rfl⟩
def chkDs (n:Int) (l:List Det):Int:=if l.length > 16 then 2 else detL n [] l
theorem checkD_spec (n:Int) (hn:n=11∨n=12) (l:List Det) (hl:l.length≤1000000):Spec Tryz.prog 74 [.d (.int .i64 n),.d (.sl 2 (encDs l))] [] (fun r h'=>r=.d (.int .i64 (chkDs n l))∧h'=[]):=by
 have hll:=qBs l
 have hdt:=detailed_spec n hn
 have hdl:(deT n).length≤1000000:=by unfold deT;split <;> simp
 unfold chkDs
 by_cases h1:l.length > 16
 case pos =>
  rw [if_pos h1]
  refine qAb hT Tryz.func74 rfl rfl rfl rfl ?_;intro E hE
  refine ww ?_
  refine qAa rfl (fun c1=>?_) (fun c1=>?_)
  ·refine ww ?_
   exact wwr
  ·exfalso
   rw [hll] at c1
   simp at c1
   omega
 rw [if_neg h1]
 generalize hfin:detL n [] l=fin
 refine qAb hT Tryz.func74 rfl rfl rfl rfl ?_;intro E hE
 refine ww ?_
 refine qAa rfl (fun c1=>?_) (fun c1=>?_)
 ·exfalso
  rw [hll] at c1
  simp at c1
  omega
 refine ww ?_
 refine qCx (ι:=Nat) (fun i=>[(0,.d (.int .i64 n)),(1,.d (.sl 2 (encDs l))),(10,.d (.sl 2 (encDs l))),(11,.d (.int .i64 ((encDs l).length:Int))),(12,.d (.int .i64 (i:Int)))]) (fun _=>[])
  (fun i=>i≤l.length∧detL n (l.take i) (l.drop i)=fin) (fun i=>l.length-i) 0 ⟨by omega,by simpa using hfin⟩ ⟨.refl _,.refl _,.refl _,.refl _,.refl _,trivial⟩ (HLe.refl _) ?_
 rintro i ⟨hi,hg⟩
 have hwr:IntKind.i64.wrap ((i:Int)+1)=((i+1:Nat):Int):=by rw [qAe (by omega)];simp
 refine ww ?_
 refine qAa rfl (fun c2=>?_) (fun c2=>?_)
 ·have c2':i < l.length:=by rw [hll] at c2;simpa using c2
  have hel:=encDs_at c2'
  have hdr:l.drop i=l[i]::l.drop (i+1):=List.drop_eq_getElem_cons c2'
  have htk:l.take (i+1)=l.take i++[l[i]]:=List.take_succ_eq_append_getElem c2'
  rw [hdr,detL] at hg
  generalize l[i]=x at hel hg htk
  obtain ⟨xt,xs⟩:=x
  unfold encD at hel
  simp only at hel hg
  have hct:=ContainsI_spec (deT n) xt hdl
  rw [deT_has] at hct
  have hcf:=ContainsFuncD_spec (p:=fun y=>y.tag == xt) (l:=l.take i) (fun y hy=>check1_spec xt xs y) rfl rfl rfl (by rw [List.length_take];omega)
  rw [show ((l.take i).any fun y=>y.tag == xt)=((l.take i).any fun y=>decide (y.tag=xt)) from rfl] at hcf
  generalize belongsF n xt=b1 at hct hg
  generalize ((l.take i).any fun y=>decide (y.tag=xt))=b2 at hcf hg
  refine ww ?_
  refine wwi hel ?_
  refine ww ?_
  refine wwc hdt ?_
  refine ww ?_
  refine wwc hct ?_
  refine ww ?_
  refine qAa rfl (fun c3=>?_) (fun c3=>?_)
  ·have hn:b1=false:=by simpa using c3
   rw [if_pos hn] at hg
   subst hg
   refine ww ?_
   exact wwr
  have hn:¬ b1=false:=by simpa using c3
  rw [if_neg hn] at hg
  have hcl:(encDs l).take ((i:Int)).toNat=encDs (l.take i):=by
   rw [Int.toNat_natCast]
   simp [encDs,List.map_take]
  refine ww ?_
  rw [hcl]
  refine qAd (callS1 rfl rfl (hcf) [0] (by decide) rfl rfl rfl rfl rfl rfl rfl) rfl ?_
  refine ww ?_
  refine qAa rfl (fun c4=>?_) (fun c4=>?_)
  ·rw [if_pos c4] at hg
   subst hg
   refine ww ?_
   exact wwr
  rw [if_neg (by rw [c4];simp)] at hg
  refine ww ?_
  refine qAa rfl (fun c5=>?_) (fun c5=>?_)
  ·have c5':xs.length < 1∨xs.length > 99:=by
    simp only [Bool.or_eq_true,decide_eq_true_eq] at c5
    omega
   rw [if_pos c5'] at hg
   subst hg
   refine ww ?_
   exact wwr
  have c5':¬ (xs.length < 1∨xs.length > 99):=by
   simp only [Bool.or_eq_false_iff,decide_eq_false_iff_not] at c5
   omega
  rw [if_neg c5'] at hg
  refine ww ?_
  exact ⟨i+1,[_],⟨c2',by rw [htk];exact hg⟩,by omega,⟨.refl _,.refl _,.refl _,.refl _,.int hwr,trivial⟩,HLe.refl _,Env.below_mono hE (by simp),rfl,rfl⟩
 ·have c2':i=l.length:=by rw [hll] at c2;simp at c2;omega
  subst c2'
  rw [List.drop_length,detL] at hg
  subst hg
  refine ww ?_
  exact wwr
end Tdoc
/- Plain: details that were read can be written. -/
set_option linter.unusedVariables false
set_option linter.unusedSimpArgs false
namespace Tdoc
open Go
end Tdoc
/- datagroups.Details of the program. -/
set_option maxHeartbeats 8000000
set_option maxRecDepth 100000
set_option linter.unusedVariables false
set_option linter.unusedSimpArgs false
namespace Tdoc
open Go Go.Proofs
theorem detF_eq (n:Int) (hn:n=11∨n=12) (l:List Det):detF n l=if chkDs n l≠0 then ([],chkDs n l) else wrapG n (.mk 92 (listD l) []::kidsD l):=by
 unfold detF chkDs
 rw [if_neg (by omega)]
 by_cases h:l.length > 16
 ·rw [if_pos h,if_pos h,if_pos (by decide)]
 ·rw [if_neg h,if_neg h]
theorem wrKidsD:∀ (l:List Det),(∀ x∈l,x.text.length≤99)→(wrL (kidsD l)).length≤l.length*110
 | [],_=>by show (0:Nat)≤_;omega
 | x::l,h=>by
  have h1:=qAl x.tag x.text [] (kidsD l)
  have h2:=wrKidsD l fun y hy=>h y (List.mem_cons_of_mem _ hy)
  have h3:=h x List.mem_cons_self
  have h0:(wrL ([]:List Node)).length=0:=rfl
  have e:kidsD (x::l)=.mk x.tag x.text []::kidsD l:=rfl
  rw [e]
  simp only [List.length_cons] at *
  omega
theorem detP_spec (n:Int) (hn : -9223372036854775807≤n∧n≤9223372036854775807) (l:List Det) (hl:l.length≤1000000):Spec Tryz.prog 30 [.d (.int .i64 n),.d (.sl 2 (encDs l))] [] (fun r h'=>r=.tup [.d (.sl 1 (encB (detF n l).1)),.d (.int .i64 (detF n l).2)]∧h'=[]):=by
 have hll:=qBs l
 by_cases hn2:n=11∨n=12
 case neg =>
  have hdn:=detailed_none n hn2
  unfold detF
  rw [if_pos (by omega)]
  refine qAb hT Tryz.func30 rfl rfl rfl rfl ?_;intro E hE
  refine ww ?_
  refine wwc hdn ?_
  refine ww ?_
  refine qAd (qAc (sliceNil_ok rfl rfl Tryz.underlying22 rfl)) rfl ?_
  refine ww ?_
  refine qAa rfl (fun c1=>?_) (fun c1=>?_)
  case refine_2=>exact absurd c1 (by simp)
  refine ww ?_
  exact wwr
 have hdt:=detailed_spec n hn2
 obtain ⟨d0,dl,hde⟩:∃ d0 dl,encI (deT n)=d0::dl:=by rcases hn2 with rfl | rfl <;> exact ⟨_,_,rfl⟩
 rw [hde] at hdt
 have hc:=checkD_spec n hn2 l hl
 rw [detF_eq n hn2]
 have hok:chkDs n l=0→l.length≤16∧detL n [] l=0:=fun h=>by
  unfold chkDs at h
  split at h
  ·omega
  ·exact ⟨by omega,h⟩
 generalize chkDs n l=e at hc hok
 refine qAb hT Tryz.func30 rfl rfl rfl rfl ?_;intro E hE
 refine ww ?_
 refine wwc hdt ?_
 refine ww ?_
 refine qAd (qAc (sliceNil_ok rfl rfl Tryz.underlying22 rfl)) rfl ?_
 refine ww ?_
 refine qAa rfl (fun c1=>?_) (fun c1=>?_)
 ·exact absurd c1 (by simp)
 refine ww ?_
 refine wwc hc ?_
 refine ww ?_
 refine qAa rfl (fun c2=>?_) (fun c2=>?_)
 ·have c2':e≠0:=by simpa using c2
  rw [if_pos c2']
  refine ww ?_
  exact wwr
 have c2':e=0:=by simpa using c2
 obtain ⟨g1,g2⟩:=hok c2'
 subst c2'
 rw [if_neg (by simp)]
 refine ww ?_
 refine qAo (AW_acquireH 0 1 1 1 rfl rfl rfl ?_)
 refine qAo ?_
 refine qBa 8 3 2 (es:=[]) (.inr ⟨rfl,rfl⟩) rfl ?_
 refine qCx (ι:=Nat) (fun i=>[(0,.d (.int .i64 n)),(7,.ptr 0 0),(8,.sl 3 (encNs (kidsD (l.take i))) (.right 2)),(21,.d (.sl 2 (encDs l))),(22,.d (.int .i64 (l.length:Int))),(23,.d (.int .i64 (i:Int)))])
  (fun i=>[.row [.d (.int .i64 92),.sl 1 (encB (listD (l.take i))) (.right 1),.sl 3 [] .full],.right 1 (encB (listD (l.take i))).length,.right 3 (encNs (kidsD (l.take i))).length])
  (fun i=>i≤l.length) (fun i=>l.length-i) 0 (by omega) ⟨.refl _,.refl _,.refl _,.refl _,.int (by rw [hll]),.refl _,trivial⟩ (HLe.refl _) ?_
 intro i hi
 have hwr:IntKind.i64.wrap ((i:Int)+1)=((i+1:Nat):Int):=by rw [qAe (by omega)];simp
 have hl1:(encB (listD (l.take i))).length≤32:=by rw [qAj,listD_length,List.length_take];omega
 have hl2:(encNs (kidsD (l.take i))).length≤16:=by rw [qAp];simp [kidsD];omega
 refine ww ?_
 refine qAa rfl (fun c3=>?_) (fun c3=>?_)
 ·have c3':i < l.length:=by have h3:(i:Int) < (l.length:Int):=(by simpa using c3);omega
  have hel:=encDs_at c3'
  have htk1:l.take (i+1)=l.take i++[l[i]]:=List.take_succ_eq_append_getElem c3'
  have ht1:encB (listD (l.take (i+1)))=encB (listD (l.take i))++[[.int .u8 (IntKind.u8.wrap (Int.fdiv (l[i]).tag (2 ^ (min (8:Int).toNat IntKind.i64.bits))))],[.int .u8 (IntKind.u8.wrap (l[i]).tag)]]:=by rw [htk1,listD_append,qBq,bOf_hi,bOf_wrap];rfl
  have ht2:encNs (kidsD (l.take (i+1)))=encNs (kidsD (l.take i))++[encN (.mk (l[i]).tag (l[i]).text [])]:=by rw [htk1,kidsD_append,qCc];rfl
  generalize hx:l[i]=x at hel ht1 ht2
  obtain ⟨tg,tx⟩:=x
  unfold encD at hel
  simp only at hel ht1 ht2
  generalize encB (listD (l.take i))=lb at hl1 ht1 ⊢
  generalize encNs (kidsD (l.take i))=kb at hl2 ht2 ⊢
  refine ww ?_
  refine wwi hel ?_
  refine ww ?_
  refine qAd (qAi (i:=1) hT rfl rfl rfl rfl rfl rfl (by show (lb.length+2)*(1+1)≤_;omega)) rfl ?_
  refine ww ?_
  refine qAd (strBytes_ok (s:=tx) hT rfl rfl rfl) rfl ?_
  refine ww ?_
  refine qAd (qAi (i:=2) hT rfl rfl rfl rfl rfl rfl (by show (kb.length+1)*(56+1)≤_;omega)) rfl ?_
  refine ww ?_
  refine ⟨i+1,[_],by omega,by omega,⟨.refl _,.refl _,AV.le.eq (by rw [ht2];rfl),.refl _,.refl _,.int hwr,trivial⟩,⟨ObLe.row (by rw [ht1]),⟨rfl,congrArg List.length ht1.symm⟩,⟨rfl,congrArg List.length ht2.symm⟩,.refl _,trivial⟩,Env.below_mono hE (by simp),rfl,rfl⟩
 ·have c3':i=l.length:=by have h3:¬ (i:Int) < (l.length:Int):=(by simpa using c3);omega
  subst c3'
  rw [List.take_length]
  have hok:=detL_ok n l [] g2
  have hk:=kidsD_fit l fun x hx=>⟨belongs_range (hok x hx).1,(hok x hx).2⟩
  have hld:=listD_length l
  have hwk:=wrKidsD l fun x hx=>(hok x hx).2
  have hw:=Wrap_spec n (by omega) (.mk 92 (listD l) []::kidsD l) (by rw [List.length_cons,hk.2.2];omega) ⟨⟨by omega,by omega,by simp,trivial⟩,hk.1⟩ (by rw [sizeL,sizeN,hk.2.1];simp [sizeL];omega) (by
   have h1:=qAl 92 (listD l) [] (kidsD l)
   have h0:(wrL ([]:List Node)).length=0:=rfl
   omega)
  generalize wrapG n (.mk 92 (listD l) []::kidsD l)=w at hw
  obtain ⟨w,we⟩:=w
  simp only at hw ⊢
  have hkn:(encNs (kidsD l)).length≤16:=by rw [qAp,hk.2.2];omega
  show AW Tryz.prog E _ _ _ _ _
  refine qDa (l:=[(0,.d (.int .i64 n)),(7,.ptr 0 0),(8,.d (.sl 3 (encNs (kidsD l))))]) (h':=[.row [.d (.int .i64 92),.d (.sl 1 (encB (listD l))),.d (.sl 3 [])],.dead,.dead]) ⟨.refl _,.refl _,.dat,trivial⟩ ⟨⟨.refl _,.dat,.dat,trivial⟩,trivial,trivial,trivial⟩ ?_
  refine ww ?_
  refine qAd (qBr (es:=encNs [.mk 92 (listD l) []]) (es2:=encNs (kidsD l)) hT rfl rfl rfl (.inl rfl) rfl (by show (1+_)*(56+1)≤_;omega)) rfl ?_
  refine ww ?_
  refine wwc hw ?_
  refine ww ?_
  exact wwr
end Tdoc
/- securityinfo.identifier. -/
set_option maxHeartbeats 8000000
set_option maxRecDepth 100000
set_option linter.unusedVariables false
set_option linter.unusedSimpArgs false
namespace Tdoc
open Go Go.Proofs
theorem identifier_spec (p:Int) (hp:2≤p∧p≤6):Spec Tryz.prog 207 [.d (.int .i64 p)] [] (fun r h'=>r=.d (.sl 1 (encB (idB p)))∧h'=[]):=by
 have hp':p=2∨p=3∨p=4∨p=5∨p=6:=by omega
 rcases hp' with rfl | rfl | rfl | rfl | rfl
 all_goals
  refine qAb hT Tryz.func207 rfl rfl rfl rfl ?_;intro E hE
  refine qAo ?_
  refine wwn ?_
  refine qBd (fun i=>bif Nat.beq i 0 then [0] else bif Nat.beq i 1 then [0] else []) (fun i=>bif Nat.beq i 0 then [0] else bif Nat.beq i 1 then [0] else []) mixed (by kernel_rfl) ?_
  refine qAq (os:=[.opq (cbR [4,0,127,0,7,2,2])]) (fun k hk1 hk2=>buildCB_ok hT rfl rfl ((hk2 0 List.mem_cons_self).trans rfl)) rfl ?_
  refine qAq (os:=[.dead]) (fun k hk1 hk2=>markCB_ok hT rfl rfl rfl ((hk2 0 List.mem_cons_self).trans rfl) rfl) rfl ?_
  refine wwg ?_
  refine qBw (qDq hT rfl rfl rfl rfl (by decide)) rfl rfl ?_
  refine qBw (qDq hT rfl rfl rfl rfl (by decide)) rfl rfl ?_
  refine wwg ?_
  refine qBw (qDq hT rfl rfl rfl rfl (by decide)) rfl rfl ?_
  refine qBw (qDq hT rfl rfl rfl rfl (by decide)) rfl rfl ?_
  refine wwg ?_
  refine qAq (os:=[]) (fun k hk1 hk2=>qBu hT rfl rfl) rfl ?_
  refine qAq (os:=[]) (fun k hk1 hk2=>qBr hT rfl rfl rfl (.inl rfl) rfl (by decide)) rfl ?_
  refine wwg ?_
  refine ww ?_
  exact wwr
end Tdoc
/- Plain: what was read encodes to no more bytes than were read. -/
set_option linter.unusedVariables false
set_option linter.unusedSimpArgs false
namespace Tdoc
open Go
end Tdoc
/- Plain: the objects of a group that was opened can be encoded. -/
set_option linter.unusedVariables false
set_option linter.unusedSimpArgs false
namespace Tdoc
open Go
end Tdoc
/- The program opens a group of infos: datagroups.OpenInfos = infoO, given that securityinfo.Decode = decI. -/
set_option linter.unusedVariables false
set_option linter.unusedSimpArgs false
namespace Tdoc
open Go Go.Proofs
end Tdoc
/- The program checks one info: securityinfo.check = infE. -/
set_option maxHeartbeats 8000000
set_option maxRecDepth 100000
set_option linter.unusedVariables false
set_option linter.unusedSimpArgs false
namespace Tdoc
open Go Go.Proofs
theorem known_spec (p:Int):Spec Tryz.prog 250 [.d (.int .i64 p)] [] (fun r h'=>r=.d (.bool (decide (p≥2)&&decide (p≤6)))∧h'=[]):=by
 refine qAb hT Tryz.func250 rfl rfl rfl rfl ?_;intro E hE
 refine ww ?_
 exact wwr
theorem mapped_spec (p:Int):Spec Tryz.prog 209 [.d (.int .i64 p)] [] (fun r h'=>r=.d (.bool (p == 2||p == 3))∧h'=[]):=by
 refine qAb hT Tryz.func209 rfl rfl rfl rfl ?_;intro E hE
 refine ww ?_
 exact wwr
theorem most_spec (b:Bool) (n:Int):Spec Tryz.prog 251 [.d (.bool b),.d (.int .i64 n)] [] (fun r h'=>r=.d (.int .i64 (if b=true then n else 0))∧h'=[]):=by
 refine qAb hT Tryz.func251 rfl rfl rfl rfl ?_;intro E hE
 refine ww ?_
 refine qAa rfl (fun c1=>?_) (fun c1=>?_)
 ·rw [if_pos c1]
  refine ww ?_
  exact wwr
 ·rw [if_neg (by rw [c1];simp)]
  refine ww ?_
  exact wwr
theorem checkI_spec (x:Inf):Spec Tryz.prog 204 [.agg (fCells x)] [] (fun r h'=>r=.d (.int .i64 (infE x))∧h'=[]):=by
 obtain ⟨p,v,a,k,d⟩:=x
 have hK:=known_spec p
 have hM:=mapped_spec p
 have hm1:=most_spec (p == 2||p == 3) 31
 have hm2:=most_spec (p == 4) 255
 have hE2:=Element_spec k
 have e1:(if (p == 2||p == 3)=true then (31:Int) else 0)=parI p:=by unfold parI;simp
 have e2:(if (p == 4)=true then (255:Int) else 0)=kidI p:=by unfold kidI;simp
 rw [e1] at hm1
 rw [e2] at hm2
 unfold infE fCells
 simp only
 generalize elemG k=el at hE2
 generalize parI p=pm at hm1
 generalize kidI p=km at hm2
 refine qAb hT Tryz.func204 rfl rfl rfl rfl ?_;intro E hE
 refine qAo ?_
 refine wwe ?_
 refine qAt (qAk ?_)
 refine qAd (qCo (i0:=0) rfl rfl rfl) rfl ?_
 refine ww ?_
 refine wwc hK ?_
 refine ww ?_
 refine qAa rfl (fun c1=>?_) (fun c1=>?_)
 ·have c1':p < 2∨p > 6:=by simp at c1;omega
  rw [if_pos c1']
  refine ww ?_
  exact wwr
 have c1':¬ (p < 2∨p > 6):=by simp at c1;omega
 rw [if_neg c1']
 refine ww ?_
 refine qAa rfl (fun c2=>?_) (fun c2=>?_)
 ·have c2':v < 1∨v > 255∨a < 0∨a > pm∨d < 0∨d > km:=by simp only [Bool.or_eq_true,decide_eq_true_eq] at c2;omega
  rw [if_pos c2']
  refine ww ?_
  exact wwr
 simp only [Bool.or_eq_false_iff,decide_eq_false_iff_not] at c2
 refine ww ?_
 refine wwgc hM ?_
 refine ww ?_
 refine wwgc hm1 ?_
 refine ww ?_
 refine qAa rfl (fun c3=>?_) (fun c3=>?_)
 ·have c3':v < 1∨v > 255∨a < 0∨a > pm∨d < 0∨d > km:=by simp only [Bool.or_eq_true,decide_eq_true_eq] at c3;omega
  rw [if_pos c3']
  refine ww ?_
  exact wwr
 simp only [Bool.or_eq_false_iff,decide_eq_false_iff_not] at c3
 refine ww ?_
 refine wwgc hm2 ?_
 refine ww ?_
 refine qAa rfl (fun c4=>?_) (fun c4=>?_)
 ·have c4':v < 1∨v > 255∨a < 0∨a > pm∨d < 0∨d > km:=by simp only [Bool.or_eq_true,decide_eq_true_eq] at c4;omega
  rw [if_pos c4']
  refine ww ?_
  exact wwr
 simp only [Bool.or_eq_false_iff,decide_eq_false_iff_not] at c4
 rw [if_neg (by omega)]
 refine ww ?_
 refine wwgc hE2 ?_
 refine ww ?_
 have hc:((p == 4&&!el)||(!(p == 4)&&k != 0))=decide ((p=4∧el=false)∨(p≠4∧k≠0)):=by
  by_cases h4:p=4 <;> cases el <;> by_cases hk:k=0 <;> simp [h4,hk]
 refine qAa rfl (fun c5=>?_) (fun c5=>?_)
 ·have c5':(p=4∧el=false)∨(p≠4∧k≠0):=by rw [hc] at c5;simpa using c5
  rw [if_pos c5']
  refine ww ?_
  exact wwr
 have c5':¬ ((p=4∧el=false)∨(p≠4∧k≠0)):=by rw [hc] at c5;exact of_decide_eq_false c5
 rw [if_neg c5']
 refine wwe ?_
 refine ww ?_
 exact wwr
end Tdoc
/- The program compares numbers: cmp.Compare, cmp.Or. -/
set_option maxHeartbeats 8000000
set_option maxRecDepth 100000
set_option linter.unusedVariables false
set_option linter.unusedSimpArgs false
namespace Tdoc
open Go Go.Proofs
def cmpI (a b:Int):Int:=if a < b then -1 else if a > b then 1 else 0
def orI (a b:Int):Int:=if a≠0 then a else b
theorem orI_infO (p x:Inf):decide (orI (cmpI p.proto x.proto) (cmpI p.kid x.kid)≥0)=infO p x:=by
 unfold orI cmpI infO
 rw [Bool.eq_iff_iff]
 simp only [decide_eq_true_eq]
 split <;> split <;> (try split) <;> (try split) <;> (try split) <;> omega
theorem isNaN_spec (a:Int):Spec Tryz.prog 252 [.d (.int .i64 a)] [] (fun r h'=>r=.d (.bool false)∧h'=[]):=by
 have h:(a != a)=false:=by simp
 refine qAb hT Tryz.func252 rfl rfl rfl rfl ?_;intro E hE
 refine ww ?_
 rw [h]
 exact wwr
theorem Compare_spec (a b:Int):Spec Tryz.prog 206 [.d (.int .i64 a),.d (.int .i64 b)] [] (fun r h'=>r=.d (.int .i64 (cmpI a b))∧h'=[]):=by
 have h1:=isNaN_spec a
 have h2:=isNaN_spec b
 unfold cmpI
 refine qAb hT Tryz.func206 rfl rfl rfl rfl ?_;intro E hE
 refine ww ?_
 refine wwc h1 ?_
 refine ww ?_
 refine wwc h2 ?_
 refine ww ?_
 refine qAa rfl (fun c1=>?_) (fun c1=>?_)
 ·exact absurd c1 (by simp)
 refine ww ?_
 refine qAa rfl (fun c2=>?_) (fun c2=>?_)
 ·exact absurd c2 (by simp)
 refine ww ?_
 refine qAa rfl (fun c3=>?_) (fun c3=>?_)
 ·rw [if_pos (by simpa using c3)]
  refine ww ?_
  exact wwr
 rw [if_neg (by simpa using c3)]
 refine ww ?_
 refine qAa rfl (fun c4=>?_) (fun c4=>?_)
 ·rw [if_pos (by simpa using c4)]
  refine ww ?_
  exact wwr
 rw [if_neg (by simpa using c4)]
 refine ww ?_
 exact wwr
theorem Or_spec (a b:Int):Spec Tryz.prog 205 [.d (.sl 1 (encI [a,b]))] [] (fun r h'=>r=.d (.int .i64 (orI a b))∧h'=[]):=by
 unfold orI
 generalize hfin:(if a≠0 then a else b)=fin
 have hlen:(encI [a,b]).length=2:=rfl
 refine qAb hT Tryz.func205 rfl rfl rfl rfl ?_;intro E hE
 refine ww ?_
 refine qAn (ι:=Nat) (fun i=>[(3,.d (.int .i64 0)),(6,.d (.sl 1 (encI [a,b]))),(7,.d (.int .i64 ((encI [a,b]).length:Int))),(8,.d (.int .i64 (i:Int)))]) (fun _=>[]) (fun i=>i≤2∧(1≤i→a=0)∧(2≤i→b=0)) (fun i=>2-i) 0 (by omega) ⟨.refl _,.refl _,.refl _,.refl _,trivial⟩ (HLe.refl _) ?_
 rintro i ⟨hi,ha,hb⟩
 have hwr:IntKind.i64.wrap ((i:Int)+1)=((i+1:Nat):Int):=by rw [qAe (by omega)];omega
 refine ww ?_
 refine qAa rfl (fun c1=>?_) (fun c1=>?_)
 ·have hlt:i < 2:=by rw [hlen] at c1;simp at c1;omega
  have hel:=encI_at (l:=[a,b]) (i:=i) hlt
  have hv:i=0∧([a,b]:List Int)[i]=a∨i=1∧([a,b]:List Int)[i]=b:=by
   match i,hlt with
   | 0,_=>exact .inl ⟨rfl,rfl⟩
   | 1,_=>exact .inr ⟨rfl,rfl⟩
  generalize ([a,b]:List Int)[i]=c at hel hv
  refine ww ?_
  refine wwi hel ?_
  refine ww ?_
  refine qAa rfl (fun c2=>?_) (fun c2=>?_)
  ·have hc:c=fin:=by
    have:c≠0:=by simpa using c2
    rw [← hfin]
    rcases hv with ⟨h0,h1⟩ | ⟨h0,h1⟩
    ·rw [if_pos (by omega)];exact h1
    ·rw [if_neg (by have:=ha (by omega);omega)];exact h1
   subst hc
   refine ww ?_
   exact wwr
  have hc:c=0:=by simpa using c2
  refine ww ?_
  exact ⟨i+1,⟨by omega,by omega,by omega⟩,by omega,⟨.refl _,.refl _,.refl _,.int hwr,trivial⟩,HLe.refl _⟩
 ·have hge:i=2:=by rw [hlen] at c1;simp at c1;omega
  have h0:fin=0:=by rw [← hfin];have:=ha (by omega);have:=hb (by omega);split <;> omega
  subst h0
  refine ww ?_
  exact wwr
end Tdoc
/- The program checks infos: securityinfo.Valid = validI. -/
set_option maxHeartbeats 8000000
set_option maxRecDepth 100000
set_option linter.unusedVariables false
set_option linter.unusedSimpArgs false
namespace Tdoc
open Go Go.Proofs
def prevO (l:List Inf) (i:Nat):Option Inf:=if i=0 then none else l[i-1]?
theorem ValidI_spec (l:List Inf) (hl:l.length≤1000000):Spec Tryz.prog 137 [.d (.sl 5 (encFs l))] [] (fun r h'=>r=.d (.int .i64 (validI l))∧h'=[]):=by
 have hll:=qBh l
 unfold validI
 by_cases h1:l.length > 16
 case pos =>
  rw [if_pos h1]
  refine qAb hT Tryz.func137 rfl rfl rfl rfl ?_;intro E hE
  refine ww ?_
  refine qAa rfl (fun c1=>?_) (fun c1=>?_)
  ·refine ww ?_
   exact wwr
  ·exfalso
   rw [hll] at c1
   simp at c1
   omega
 rw [if_neg h1]
 generalize hfin:infL none l=fin
 refine qAb hT Tryz.func137 rfl rfl rfl rfl ?_;intro E hE
 refine ww ?_
 refine qAa rfl (fun c1=>?_) (fun c1=>?_)
 ·exfalso
  rw [hll] at c1
  simp at c1
  omega
 refine ww ?_
 refine qCx (ι:=Nat) (fun i=>[(0,.d (.sl 5 (encFs l))),(9,.d (.sl 5 (encFs l))),(10,.d (.int .i64 ((encFs l).length:Int))),(11,.d (.int .i64 (i:Int)))]) (fun _=>[])
  (fun i=>i≤l.length∧infL (prevO l i) (l.drop i)=fin) (fun i=>l.length-i) 0 ⟨by omega,by simpa [prevO] using hfin⟩ ⟨.refl _,.refl _,.refl _,.refl _,trivial⟩ (HLe.refl _) ?_
 rintro i ⟨hi,hg⟩
 have hwr:IntKind.i64.wrap ((i:Int)+1)=((i+1:Nat):Int):=by rw [qAe (by omega)];simp
 refine ww ?_
 refine qAa rfl (fun c2=>?_) (fun c2=>?_)
 ·have c2':i < l.length:=by rw [hll] at c2;simpa using c2
  have hel:=encFs_at c2'
  have hdr:l.drop i=l[i]::l.drop (i+1):=List.drop_eq_getElem_cons c2'
  have hpv:prevO l (i+1)=some l[i]:=by unfold prevO;simp [c2']
  rw [hdr,infL_cons] at hg
  have hC:=checkI_spec l[i]
  generalize l[i]=x at hel hC hpv hg
  generalize he:infE x=ve at hC hg
  obtain ⟨x1,x2,x3,x4,x5⟩:=x
  unfold fCells at hC
  unfold encF at hel
  simp only at hC hel
  by_cases h0:i=0
  ·subst h0
   have hn:decide (((0:Nat):Int) > 0)=false:=rfl
   refine ww ?_
   refine wwi hel ?_
   refine ww ?_
   refine wwc hC ?_
   refine ww ?_
   refine qAa rfl (fun c3=>?_) (fun c3=>?_)
   ·rw [if_pos (by simpa using c3)] at hg
    subst hg
    refine ww ?_
    exact wwr
   rw [if_neg (by simpa using c3)] at hg
   refine wwk hn ?_
   refine qAa rfl (fun c4=>?_) (fun c4=>?_)
   ·exact absurd c4 (by simp)
   simp only [prevO,if_true] at hg
   rw [if_neg (by simp)] at hg
   refine ww ?_
   exact ⟨0+1,[_],⟨c2',by rw [hpv];exact hg⟩,by omega,⟨.refl _,.refl _,.refl _,.int hwr,trivial⟩,HLe.refl _,Env.below_mono hE (by simp),rfl,rfl⟩
  ·have hlt:i-1 < l.length:=by omega
   have help:(encFs l)[(IntKind.i64.wrap ((i:Int)-1)).toNat]?=some (encF l[i-1]):=by
    rw [qAe (by omega),show (i:Int)-1=((i-1:Nat):Int) by omega];exact encFs_at hlt
   have hp:prevO l i=some l[i-1]:=by unfold prevO;rw [if_neg h0];simp [hlt]
   have hn:decide ((i:Int) > 0)=true:=by simp;omega
   have hwi:IntKind.i64.wrap ((i:Int)-1)=(i:Int)-1:=qAe (by omega)
   rw [hp] at hg
   have hg:(if ve≠0 then ve else if infO l[i-1] ⟨x1,x2,x3,x4,x5⟩=true then 17 else infL (some ⟨x1,x2,x3,x4,x5⟩) (l.drop (i+1)))=fin:=hg
   have hio:=orI_infO l[i-1] ⟨x1,x2,x3,x4,x5⟩
   generalize infO l[i-1] ⟨x1,x2,x3,x4,x5⟩=io at hg hio
   generalize l[i-1]=p at help hio
   obtain ⟨p1,p2,p3,p4,p5⟩:=p
   simp only at hio
   unfold encF at help
   simp only at help
   have hc1:=Compare_spec p1 x1
   have hc2:=Compare_spec p5 x5
   have hor:=Or_spec (cmpI p1 x1) (cmpI p5 x5)
   generalize orI (cmpI p1 x1) (cmpI p5 x5)=ov at hor hio
   subst hio
   refine ww ?_
   refine wwi hel ?_
   refine ww ?_
   refine wwc hC ?_
   refine ww ?_
   refine qAa rfl (fun c3=>?_) (fun c3=>?_)
   ·rw [if_pos (by simpa using c3)] at hg
    subst hg
    refine ww ?_
    exact wwr
   rw [if_neg (by simpa using c3)] at hg
   refine ww ?_
   refine wwgi help ?_
   refine ww ?_
   refine wwgc hc1 ?_
   refine ww ?_
   refine wwgi help ?_
   refine ww ?_
   refine wwgc hc2 ?_
   refine ww ?_
   refine AWd_gop rfl rfl rfl rfl (fun hg=>⟨(sg (C:=True) hg).1,callS0L (args:=[.sl 1 [[Dat.int .i64 (cmpI p1 x1)],[Dat.int .i64 (cmpI p5 x5)]] .full]) rfl rfl hor rfl (by exact ⟨AV.le.dat,trivial⟩) rfl rfl⟩) ?_
   refine ww ?_
   refine qAa rfl (fun c4=>?_) (fun c4=>?_)
   ·have hov:decide (ov≥0)=true:=by rw [hn] at c4;simpa using c4
    rw [if_pos hov] at hg
    subst hg
    refine ww ?_
    exact wwr
   have hov:¬ decide (ov≥0)=true:=by rw [hn] at c4;simpa using c4
   rw [if_neg hov] at hg
   refine ww ?_
   exact ⟨i+1,[_],⟨c2',by rw [hpv];exact hg⟩,by omega,⟨.refl _,.refl _,.refl _,.int hwr,trivial⟩,HLe.refl _,Env.below_mono hE (by simp),rfl,rfl⟩
 ·have c2':i=l.length:=by rw [hll] at c2;simp at c2;omega
  subst c2'
  rw [List.drop_length,infL_nil] at hg
  subst hg
  refine ww ?_
  exact wwr
end Tdoc
/- securityinfo.number and object of the program. -/
set_option maxHeartbeats 8000000
set_option maxRecDepth 100000
set_option linter.unusedVariables false
set_option linter.unusedSimpArgs false
namespace Tdoc
open Go Go.Proofs
theorem numberP_spec (n:Int):Spec Tryz.prog 208 [.d (.int .i64 n)] [] (fun r h'=>r=.agg ((encN (.mk 2 [bOf n] [])).map .d)∧h'=[]):=by
 have e:encN (.mk 2 [bOf n] [])=[Dat.int .i64 2,.sl 1 [[.int .u8 (IntKind.u8.wrap n)]],.sl 3 []]:=by rw [bOf_wrap];rfl
 rw [e]
 refine qAb hT Tryz.func208 rfl rfl rfl rfl ?_;intro E hE
 refine ww ?_
 exact qAf (r:=.agg [.d (.int .i64 2),.d (.sl 1 [[.int .u8 (IntKind.u8.wrap n)]]),.d (.sl 3 [])]) rfl (AV.le.agg ⟨.refl _,AV.le.dat,AV.le.dat,trivial⟩) rfl rfl rfl rfl ⟨rfl,rfl⟩
theorem objIP_spec (x:Inf) (hv:infE x=0):Spec Tryz.prog 138 [.agg (fCells x)] [] (fun r h'=>r=nAV (objI x)∧h'=[]):=by
 have hE0:(2≤x.proto∧x.proto≤6)∧(x.proto=4→elemG x.key=true):=by
  unfold infE at hv
  split at hv
  ·exact absurd hv (by decide)
  split at hv
  ·exact absurd hv (by decide)
  split at hv
  ·exact absurd hv (by decide)
  rename_i h1 h2 h3
  refine ⟨by omega,fun h=>?_⟩
  cases hh:elemG x.key with
  | true=>rfl
  | false=>exact absurd (.inl ⟨h,hh⟩) h3
 obtain ⟨p,v,q,k,d⟩:=x
 simp only at hE0
 have hid:=identifier_spec p hE0.1
 have hnv:=numberP_spec v
 have hnq:=numberP_spec q
 have hnd:=numberP_spec d
 have hm:=mapped_spec p
 have hge:=GEncode_spec k
 unfold objI fCells
 simp only
 unfold nAV
 have e0:∀ r:List Node,encN (.mk 48 [] ([.mk 6 (idB p) [],.mk 2 [bOf v] []]++r))=[Dat.int .i64 48,.sl 1 [],.sl 3 ([[Dat.int .i64 6,.sl 1 (encB (idB p)),.sl 3 []],encN (.mk 2 [bOf v] [])]++encNs r)]:=fun r=>rfl
 rw [e0]
 have ev:encN (.mk 2 [bOf v] [])=[Dat.int .i64 2,.sl 1 (encB [bOf v]),.sl 3 []]:=rfl
 have eq:encN (.mk 2 [bOf q] [])=[Dat.int .i64 2,.sl 1 (encB [bOf q]),.sl 3 []]:=rfl
 have ed:encN (.mk 2 [bOf d] [])=[Dat.int .i64 2,.sl 1 (encB [bOf d]),.sl 3 []]:=rfl
 rw [ev] at hnv ⊢
 rw [eq] at hnq
 rw [ed] at hnd
 refine qAb hT Tryz.func138 rfl rfl rfl rfl ?_;intro E hE
 refine qAo ?_
 refine wwn ?_
 refine qBd (fun i=>bif Nat.beq i 1 then [1] else bif Nat.beq i 5 then [1] else bif Nat.beq i 9 then [0] else bif Nat.beq i 10 then [0] else []) (fun i=>bif Nat.beq i 9 then [0] else bif Nat.beq i 10 then [0] else []) mixed (by kernel_rfl) ?_
 refine wwg ?_
 refine wwdc hid ?_
 refine wwg ?_
 refine wwdc hnv ?_
 refine wwg ?_
 refine qAq (os:=[]) (fun k hk1 hk2=>qBu hT rfl rfl) rfl ?_
 refine wwg ?_
 refine qAq (v:=.ptr 0 0) (os:=[.row [.d (.int .i64 0),.sl 1 [] .full,.sl 3 [] .full]]) (fun kk hk1 hk2=>allocAt_ok (i0:=0) (i:=⟨.struct [(0,1,false),(1,1,false),(2,1,false)],3,56,[.d (.int .i64 0),.sl 1 [] .full,.sl 3 [] .full]⟩) hT rfl rfl ((hk2 0 List.mem_cons_self).trans rfl)) rfl ?_
 refine wwg ?_
 refine ww ?_
 refine wwc hm ?_
 refine ww ?_
 show AW Tryz.prog E _ _ _ _ _
 generalize idB p=ib
 refine qDa (l:=[(1,.ptr 1 0),(2,.ptr 2 0),(3,.ptr 0 0),(15,.d (.bool (p == 2||p == 3)))]) (h':=[.row [.d (.int .i64 48),.sl 1 [] .full,.sl 3 [[.int .i64 6,.sl 1 (encB ib),.sl 3 []],[.int .i64 2,.sl 1 (encB [bOf v]),.sl 3 []]] .full],.row [.d (.int .i64 p),.d (.int .i64 v),.d (.int .i64 q),.d (.int .i64 k),.d (.int .i64 d)],.row [.d (.int .i64 0),.sl 1 [] .full,.sl 3 [] .full]]) ⟨.refl _,.refl _,.refl _,.refl _,trivial⟩ (HLe.refl _) ?_
 refine qAo (AW_acquireH 0 2 3 3 rfl rfl rfl ?_)
 refine qAa rfl (fun c1=>?_) (fun c1=>?_)
 ·have c1':p=2∨p=3:=by simpa using c1
  rw [if_pos c1']
  show AW Tryz.prog E _ _ _ _ _
  refine qBd (fun i=>bif Nat.beq i 1 then [0] else bif Nat.beq i 3 then [1] else bif Nat.beq i 6 then [3] else bif Nat.beq i 8 then [0] else []) (fun i=>bif Nat.beq i 6 then [3] else bif Nat.beq i 8 then [0] else []) mixed (by kernel_rfl) ?_
  refine wwg ?_
  refine wwdc hnq ?_
  refine wwg ?_
  refine qAq (os:=[]) (fun k hk1 hk2=>qBu hT rfl rfl) rfl ?_
  refine qAq (v:=.sl 3 [[.int .i64 6,.sl 1 (encB ib),.sl 3 []],[.int .i64 2,.sl 1 (encB [bOf v]),.sl 3 []],[.int .i64 2,.sl 1 (encB [bOf q]),.sl 3 []]] (.right 3)) (os:=[.right 3 3]) (fun k hk1 hk2=>qAi (i:=3) hT rfl rfl rfl rfl ((hk2 3 List.mem_cons_self).trans rfl) rfl (by show (2+1)*(56+1)≤140737488355328;omega)) rfl ?_
  refine wwg ?_
  show AW Tryz.prog E _ _ _ _ _
  refine qDa (l:=[(1,.ptr 1 0),(2,.ptr 2 0),(3,.ptr 0 0)]) (h':=[.row [.d (.int .i64 48),.d (.sl 1 []),.d (.sl 3 [[.int .i64 6,.sl 1 (encB ib),.sl 3 []],[.int .i64 2,.sl 1 (encB [bOf v]),.sl 3 []],[.int .i64 2,.sl 1 (encB [bOf q]),.sl 3 []]])],.dead,.row [.d (.int .i64 0),.sl 1 [] .full,.sl 3 [] .full],.dead]) ⟨.refl _,.refl _,.refl _,trivial⟩ ⟨⟨.refl _,.dat,.dat,trivial⟩,trivial,.refl _,trivial,trivial⟩ ?_
  refine ww ?_
  exact wwr
 have c1':¬ (p=2∨p=3):=by simpa using c1
 rw [if_neg c1']
 refine ww ?_
 refine qAa rfl (fun c2=>?_) (fun c2=>?_)
 ·have c2':p=4:=by simpa using c2
  rw [if_pos c2']
  have hel:=hE0.2 c2'
  rw [hel,if_pos rfl,if_pos rfl] at hge
  refine ww ?_
  refine wwc hge ?_
  refine wwn ?_
  show AW Tryz.prog E _ _ _ _ _
  refine qBd (fun i=>bif Nat.beq i 1 then [0] else bif Nat.beq i 5 then [1] else bif Nat.beq i 8 then [3] else bif Nat.beq i 10 then [0] else []) (fun i=>bif Nat.beq i 8 then [3] else bif Nat.beq i 10 then [0] else []) mixed (by kernel_rfl) ?_
  refine wwg ?_
  refine wwdc hnd ?_
  refine wwg ?_
  refine qAq (os:=[]) (fun k hk1 hk2=>qBu hT rfl rfl) rfl ?_
  refine qAq (v:=.sl 3 [[.int .i64 6,.sl 1 (encB ib),.sl 3 []],[.int .i64 2,.sl 1 (encB [bOf v]),.sl 3 []],[.int .i64 4,.sl 1 (encB (octB 4 k.toNat)),.sl 3 []],[.int .i64 2,.sl 1 (encB [bOf d]),.sl 3 []]] (.right 3)) (os:=[.right 3 4]) (fun kk hk1 hk2=>qAi (i:=3) hT rfl rfl rfl rfl ((hk2 3 List.mem_cons_self).trans rfl) rfl (by show (2+2)*(56+1)≤140737488355328;omega)) rfl ?_
  refine wwg ?_
  show AW Tryz.prog E _ _ _ _ _
  refine qDa (l:=[(1,.ptr 1 0),(2,.ptr 2 0),(3,.ptr 0 0)]) (h':=[.row [.d (.int .i64 48),.d (.sl 1 []),.d (.sl 3 [[.int .i64 6,.sl 1 (encB ib),.sl 3 []],[.int .i64 2,.sl 1 (encB [bOf v]),.sl 3 []],[.int .i64 4,.sl 1 (encB (octB 4 k.toNat)),.sl 3 []],[.int .i64 2,.sl 1 (encB [bOf d]),.sl 3 []]])],.dead,.row [.d (.int .i64 0),.sl 1 [] .full,.sl 3 [] .full],.dead]) ⟨.refl _,.refl _,.refl _,trivial⟩ ⟨⟨.refl _,.dat,.dat,trivial⟩,trivial,.refl _,trivial,trivial⟩ ?_
  refine ww ?_
  exact wwr
 ·have c2':¬ p=4:=by simpa using c2
  rw [if_neg c2']
  show AW Tryz.prog E _ _ _ _ _
  refine qDa (l:=[(1,.ptr 1 0),(2,.ptr 2 0),(3,.ptr 0 0)]) (h':=[.row [.d (.int .i64 48),.d (.sl 1 []),.d (.sl 3 [[.int .i64 6,.sl 1 (encB ib),.sl 3 []],[.int .i64 2,.sl 1 (encB [bOf v]),.sl 3 []]])],.dead,.row [.d (.int .i64 0),.sl 1 [] .full,.sl 3 [] .full],.dead]) ⟨.refl _,.refl _,.refl _,trivial⟩ ⟨⟨.refl _,.dat,.dat,trivial⟩,trivial,.refl _,trivial,trivial⟩ ?_
  refine ww ?_
  exact wwr
end Tdoc
/- securityinfo.Encode of the program. -/
set_option maxHeartbeats 8000000
set_option maxRecDepth 100000
set_option linter.unusedVariables false
set_option linter.unusedSimpArgs false
namespace Tdoc
open Go Go.Proofs
def encIF (l:List Inf):List UInt8×Int:=if validI l≠0 then ([],validI l) else encodeP [setI l]
theorem infL_get:∀ {l:List Inf} {p:Option Inf},infL p l=0→∀ {i:Nat} (hi:i < l.length),infE l[i]=0
 | [],_,_,_,hi=>by simp at hi
 | x::l,p,h,i,hi=>by
  rw [infL_cons] at h
  have hv:infE x=0:=by
   by_cases hv:infE x=0
   ·exact hv
   ·rw [if_pos hv] at h;exact h
  rw [if_neg (fun hh=>hh hv)] at h
  have hl:infL (some x) l=0:=by
   split at h <;> split at h
   all_goals first | exact h | exact absurd h (by decide)
  cases i with
  | zero=>exact hv
  | succ i=>exact infL_get hl (by simpa using hi)
theorem validI_ok {l:List Inf} (h:validI l=0):l.length≤16∧infL none l=0:=by
 unfold validI at h
 split at h
 ·omega
 ·exact ⟨by omega,h⟩
theorem idB_len (p:Int):(idB p).length=9:=by
 unfold idB
 split
 ·rfl
 split
 ·rfl
 split
 ·rfl
 split <;> rfl
theorem wrObjI (x:Inf) (r:List Node):(wrL (objI x::r)).length≤200+(wrL r).length:=by
 unfold objI
 have h0:(wrL ([]:List Node)).length=0:=rfl
 have hid:=idB_len x.proto
 split
 ·have h1:=qAl 48 [] ([.mk 6 (idB x.proto) [],.mk 2 [bOf x.ver] []]++[.mk 2 [bOf x.par] []]) r
  have h2:=qAl 6 (idB x.proto) [] [.mk 2 [bOf x.ver] [],.mk 2 [bOf x.par] []]
  have h3:=qAl 2 [bOf x.ver] [] [.mk 2 [bOf x.par] []]
  have h4:=qAl 2 [bOf x.par] [] []
  simp only [List.cons_append,List.nil_append,List.length_cons,List.length_nil] at *
  omega
 split
 ·have h1:=qAl 48 [] ([.mk 6 (idB x.proto) [],.mk 2 [bOf x.ver] []]++[.mk 4 (octB 4 x.key.toNat) [],.mk 2 [bOf x.kid] []]) r
  have h2:=qAl 6 (idB x.proto) [] [.mk 2 [bOf x.ver] [],.mk 4 (octB 4 x.key.toNat) [],.mk 2 [bOf x.kid] []]
  have h3:=qAl 2 [bOf x.ver] [] [.mk 4 (octB 4 x.key.toNat) [],.mk 2 [bOf x.kid] []]
  have h4:=qAl 4 (octB 4 x.key.toNat) [] [.mk 2 [bOf x.kid] []]
  have h5:=qAl 2 [bOf x.kid] [] []
  simp only [List.cons_append,List.nil_append,List.length_cons,List.length_nil,qCk] at *
  omega
 ·have h1:=qAl 48 [] ([.mk 6 (idB x.proto) [],.mk 2 [bOf x.ver] []]++[]) r
  have h2:=qAl 6 (idB x.proto) [] [.mk 2 [bOf x.ver] []]
  have h3:=qAl 2 [bOf x.ver] [] []
  simp only [List.cons_append,List.nil_append,List.length_cons,List.length_nil] at *
  omega
theorem wrObjIs:∀ (l:List Inf),(wrL (l.map objI)).length≤l.length*200
 | []=>by show (0:Nat)≤_;omega
 | x::l=>by
  have h1:=wrObjI x (l.map objI)
  have h2:=wrObjIs l
  simp only [List.map_cons,List.length_cons]
  omega
theorem wrSetI {l:List Inf} (h:l.length≤16):(wrL [setI l]).length≤10000:=by
 have h1:=wrObjIs l
 have h2:=qAl 49 [] (l.map objI) []
 have h0:(wrL ([]:List Node)).length=0:=rfl
 unfold setI
 simp only [List.length_nil] at *
 omega
theorem encIP_spec (l:List Inf) (hl:l.length≤1000000):Spec Tryz.prog 76 [.d (.sl 5 (encFs l))] [] (fun r h'=>r=.tup [.d (.sl 1 (encB (encIF l).1)),.d (.int .i64 (encIF l).2)]∧h'=[]):=by
 have hll:=qBh l
 have hc:=ValidI_spec l hl
 have hcv:=@validI_ok l
 unfold encIF
 generalize validI l=e at hc hcv
 refine qAb hT Tryz.func76 rfl rfl rfl rfl ?_;intro E hE
 refine ww ?_
 refine wwc hc ?_
 refine ww ?_
 refine qAa rfl (fun c1=>?_) (fun c1=>?_)
 ·have c1':e≠0:=by simpa using c1
  rw [if_pos c1']
  refine ww ?_
  exact wwr
 have c1':e=0:=by simpa using c1
 obtain ⟨g1,g3⟩:=hcv c1'
 subst c1'
 rw [if_neg (by simp)]
 obtain ⟨f1,f2⟩:=setI_fit g1
 have henc:=Encode_spec [setI l] (by simp) f1 (by omega) (by have:=wrSetI g1;omega)
 generalize encodeP [setI l]=en at henc
 obtain ⟨b,f⟩:=en
 simp only at henc ⊢
 refine ww ?_
 refine qAo (AW_acquireH 0 2 1 3 rfl rfl rfl ?_)
 refine qCx (ι:=Nat) (fun i=>[(14,.d (.sl 5 (encFs l))),(5,.ptr 0 0),(15,.d (.int .i64 (l.length:Int))),(16,.d (.int .i64 (i:Int)))])
  (fun i=>[.row [.d (.int .i64 49),.sl 1 [] .full,.sl 3 (encNs ((l.take i).map objI)) (.right 1)],.right 3 (encNs ((l.take i).map objI)).length])
  (fun i=>i≤l.length) (fun i=>l.length-i) 0 (by omega) ⟨.refl _,.refl _,.int (by rw [hll]),.refl _,trivial⟩ (HLe.refl _) ?_
 intro i hi
 have hwr:IntKind.i64.wrap ((i:Int)+1)=((i+1:Nat):Int):=by rw [qAe (by omega)];simp
 have hkl:(encNs ((l.take i).map objI)).length≤16:=by rw [qAp];simp;omega
 refine ww ?_
 refine qAa rfl (fun c2=>?_) (fun c2=>?_)
 ·have c2':i < l.length:=by have h3:(i:Int) < (l.length:Int):=(by simpa using c2);omega
  have hel:=encFs_at c2'
  have htk:encNs ((l.take (i+1)).map objI)=encNs ((l.take i).map objI)++[encN (objI l[i])]:=by
   rw [List.take_succ_eq_append_getElem c2',List.map_append,qCc];rfl
  have ho:=objIP_spec l[i] (infL_get g3 c2')
  generalize l[i]=t at hel ho htk
  generalize encNs ((l.take i).map objI)=ks at hkl htk ⊢
  generalize hnd:encN (objI t)=nd at htk
  have hnd':∃ v k,nd=[.int .i64 48,.sl 1 v,.sl 3 k]:=⟨_,_,hnd.symm⟩
  unfold nAV at ho
  rw [hnd] at ho
  obtain ⟨vv,kk,rfl⟩:=hnd'
  unfold fCells at ho
  refine ww ?_
  refine wwi hel ?_
  refine wwn ?_
  show AW Tryz.prog E _ _ _ _ _
  refine qBd (fun i=>bif Nat.beq i 1 then [0] else bif Nat.beq i 2 then [2] else bif Nat.beq i 5 then [1] else bif Nat.beq i 7 then [0] else []) (fun i=>bif Nat.beq i 5 then [1] else bif Nat.beq i 7 then [0] else []) mixed (by kernel_rfl) ?_
  refine wwg ?_
  refine wwdc ho ?_
  refine wwg ?_
  refine qAq (os:=[]) (fun k hk1 hk2=>qBu hT rfl rfl) rfl ?_
  refine qAq (v:=.sl 3 (ks++[[.int .i64 48,.sl 1 vv,.sl 3 kk]]) (.right 1)) (os:=[.right 3 (ks++[[Dat.int .i64 48,.sl 1 vv,.sl 3 kk]]).length]) (fun k hk1 hk2=>qAi (i:=1) hT rfl rfl rfl rfl ((hk2 1 List.mem_cons_self).trans rfl) rfl (by show (ks.length+1)*(56+1)≤_;omega)) rfl ?_
  refine wwg ?_
  refine ww ?_
  refine ⟨i+1,[_],by omega,by omega,⟨.refl _,.refl _,.refl _,.int hwr,trivial⟩,⟨ObLe.row (by rw [htk]),⟨rfl,congrArg List.length htk.symm⟩,.refl _,trivial⟩,Env.below_mono hE (by simp),rfl,rfl⟩
 ·have c2':i=l.length:=by have h3:¬ (i:Int) < (l.length:Int):=(by simpa using c2);omega
  subst c2'
  rw [List.take_length]
  show AW Tryz.prog E _ _ _ _ _
  refine qDa (l:=[(5,.ptr 0 0)]) (h':=[.row [.d (.int .i64 49),.d (.sl 1 []),.d (.sl 3 (encNs (l.map objI)))],.dead]) ⟨.refl _,trivial⟩ ⟨⟨.refl _,.dat,.dat,trivial⟩,trivial,trivial⟩ ?_
  have henc':Spec Tryz.prog 94 [.d (.sl 3 [[.int .i64 49,.sl 1 [],.sl 3 (encNs (l.map objI))]])] [] (fun r h'=>r=.tup [.d (.sl 1 (encB b)),.d (.int .i64 f)]∧h'=[]):=henc
  refine ww ?_
  refine wwc henc' ?_
  refine ww ?_
  exact wwr
end Tdoc
/- datagroups.Infos of the program, given that the encoding of infos parses to the infos' object. -/
set_option maxHeartbeats 8000000
set_option maxRecDepth 100000
set_option linter.unusedVariables false
set_option linter.unusedSimpArgs false
namespace Tdoc
open Go Go.Proofs
theorem infosP_walk (l:List Inf) (hl:l.length≤1000000) (hp:validI l=0→(encodeP [setI l]).2=0∧(encodeP [setI l]).1.length≤10000∧(parseX (encodeP [setI l]).1 true).1=[setI l]):Spec Tryz.prog 32 [.d (.sl 5 (encFs l))] [] (fun r h'=>r=.tup [.d (.sl 1 (encB (infosF l).1)),.d (.int .i64 (infosF l).2)]∧h'=[]):=by
 have hc:=encIP_spec l hl
 have hcv:=@validI_ok l
 unfold encIF at hc
 unfold infosF
 by_cases h0:validI l=0
 ·obtain ⟨p1,p2,p3⟩:=hp h0
  obtain ⟨g1,g3⟩:=hcv h0
  rw [if_neg (by simp [h0])] at hc ⊢
  obtain ⟨f1,f2⟩:=setI_fit g1
  have hw:=Wrap_spec 14 (by omega) [setI l] (by simp) f1 (by omega) (by have:=wrSetI g1;omega)
  have hps:=Parse_spec (encodeP [setI l]).1 true (by omega)
  rw [p3] at hps
  rw [p1] at hc
  generalize (encodeP [setI l]).1=b at hc hps
  generalize (parseX b true).2=pe at hps
  generalize wrapG 14 [setI l]=w at hw
  obtain ⟨w,we⟩:=w
  simp only at hw ⊢
  generalize encNs [setI l]=ks at hps hw
  refine qAb hT Tryz.func32 rfl rfl rfl rfl ?_;intro E hE
  refine ww ?_
  refine wwc hc ?_
  refine ww ?_
  refine qAa rfl (fun c1=>?_) (fun c1=>?_)
  ·exact absurd c1 (by simp)
  refine ww ?_
  refine wwc hps ?_
  refine ww ?_
  refine wwc hw ?_
  refine ww ?_
  exact wwr
 ·rw [if_pos h0] at hc ⊢
  simp only at hc ⊢
  generalize validI l=e at hc h0
  refine qAb hT Tryz.func32 rfl rfl rfl rfl ?_;intro E hE
  refine ww ?_
  refine wwc hc ?_
  refine ww ?_
  refine qAa rfl (fun c1=>?_) (fun c1=>?_)
  case refine_2=>exact absurd (by simpa using c1) h0
  refine ww ?_
  exact wwr
end Tdoc
/- Plain: what the encoder writes is read back strictly. -/
set_option linter.unusedVariables false
set_option linter.unusedSimpArgs false
namespace Tdoc
open Go Go.Proofs
inductive LenS (n:Nat):List UInt8→Prop where
 | one:n < 128→LenS n [UInt8.ofNat n]
 | two:128≤n→n < 256→LenS n [129,UInt8.ofNat n]
 | three:256≤n→LenS n [130,UInt8.ofNat (n / 256 % 256),UInt8.ofNat (n % 256)]
theorem lenB_S {n:Nat} (h:n≤4097):LenS n (lenB n):=by
 rw [← lenR_eq h]
 unfold lenR
 split
 ·exact .one (by omega)
 ·split
  ·exact .two (by omega) (by omega)
  ·exact .three (by omega)
inductive EncS:List Node→List UInt8→Prop where
 | nil:EncS [] []
 | prim {t:Int} {v:List UInt8} {k:List Node} {l:List Node} {f r:List UInt8}:tagCons t=false→LenS v.length f→EncS l r→EncS (.mk t v k::l) (tagB t++(f++(v++r)))
 | cons {t:Int} {v:List UInt8} {k:List Node} {l:List Node} {f c r:List UInt8}:tagCons t=true→EncS k c→LenS c.length f→EncS l r→EncS (.mk t v k::l) (tagB t++(f++(c++r)))
theorem lenX_atS {b:List UInt8} {e q n:Nat} {f:List UInt8} (op:Bool) (hf:LenS n f) (hn:n < 65536) (h:At b e q f):lenX b e op true q=((n:Int),0,q+f.length):=by
 unfold lenX
 cases hf with
 | one h1 =>
  obtain ⟨a1,a2,_⟩:=h.head
  rw [toNat_mod] at a1
  rw [if_neg (by omega),if_pos (by omega)]
  simp only [List.length_cons,List.length_nil]
  rw [a1,Nat.mod_eq_of_lt (by omega)]
 | two h0 h1 =>
  obtain ⟨a1,a2,a3⟩:=h.head
  obtain ⟨b1,b2,_⟩:=a3.head
  rw [toNat_mod] at b1
  have a1:byteAt b q=129:=a1
  have e1:numB b (q+1) (129 % 16) 0=n:=by
   simp only [numB]
   rw [b1,Nat.mod_eq_of_lt (by omega)]
   simp
  rw [if_neg (by omega),if_neg (by omega),if_neg (by omega),if_neg (by omega),if_neg (by omega),a1,e1,if_neg ?_]
  ·rfl
  ·rintro ⟨_,h2 | h2⟩
   ·omega
   ·have h3:n / 1=0:=h2
    omega
 | three h0 =>
  obtain ⟨a1,a2,a3⟩:=h.head
  obtain ⟨b1,b2,b3⟩:=a3.head
  obtain ⟨c1,c2,_⟩:=b3.head
  rw [toNat_mod] at b1 c1
  have a1:byteAt b q=130:=a1
  have e1:numB b (q+1) (130 % 16) 0=n:=by
   simp only [numB]
   rw [b1,c1]
   omega
  rw [if_neg (by omega),if_neg (by omega),if_neg (by omega),if_neg (by omega),if_neg (by omega),a1,e1,if_neg ?_]
  ·rfl
  ·rintro ⟨_,h2 | h2⟩
   ·omega
   ·have h3:n / 256=0:=h2
    omega
theorem encS_steps (b:List UInt8) {l:List Node} {r:List UInt8} (h:EncS l r):∀ (k d e p c:Nat),(chkL d l 0).1=0→d+k=9→c+sizeL l≤256→r.length < 65536→e≤b.length→At b e p r→Steps b (objX b true (k+1) e d) e p c l (p+r.length) (c+sizeL l):=by
 induction h with
 | nil=>intro k d e p c _ _ _ _ _ _;exact .nil p c
 | @prim t v k0 l f r h1 h2 h3 ih =>
  intro k d e p c hch hk hc hr he ha
  obtain ⟨c1,c2⟩:=chkL_inv hch
  obtain ⟨t1,t2,t3,t4,t5⟩:=chkN_inv c1
  obtain rfl:=t2 h1
  obtain ⟨g1,g2⟩:=tagX_at t1 ha.left
  have a2:=ha.right
  have a3:=a2.left
  have a4:=a2.right
  have a5:=a4.left
  have a6:=a4.right
  simp only [List.length_append] at hr
  have hsz:sizeL (Node.mk t v []::l)=1+sizeL l:=by simp [sizeL,sizeN]
  rw [hsz] at hc ⊢
  have hl:=lenX_atS false h2 (by omega) a3
  have hbd:=a5.1
  refine .cons (p1:=p+(tagB t).length+f.length+v.length) (c1:=c+1) ?_ g2 ?_ ?_
  ·have:=(tagX_inv (b:=b) (e:=e) (p:=p) (by rw [g1])).1
   rw [g1] at this;simp only at this;omega
  ·rw [objX,g1]
   simp only [ne_eq,not_true_eq_false,if_false]
   rw [Bool.not_true,Bool.and_false,hl]
   unfold objY
   simp only [ne_eq,not_true_eq_false,if_false]
   rw [if_neg (by omega),if_neg (by omega),if_neg (by omega),if_neg (by omega),if_neg (by simp [h1])]
   rw [Int.toNat_natCast,a5.cut he]
  ·have:=ih k d e (p+(tagB t).length+f.length+v.length) (c+1) c2 hk (by omega) (by omega) he a6
   simp only [List.length_append]
   rw [show p+((tagB t).length+(f.length+(v.length+r.length)))=p+(tagB t).length+f.length+v.length+r.length by omega,show c+(1+sizeL l)=c+1+sizeL l by omega]
   exact this
 | @cons t v k0 l f c0 r h1 h2 h3 h4 ihk ih =>
  intro k d e p c hch hk hc hr he ha
  obtain ⟨c1,c2⟩:=chkL_inv hch
  obtain ⟨t1,t2,t3,t4,t5⟩:=chkN_inv c1
  obtain rfl:=t3 h1
  obtain ⟨g1,g2⟩:=tagX_at t1 ha.left
  have a2:=ha.right
  have a3:=a2.left
  have a4:=a2.right
  have a5:=a4.left
  have a6:=a4.right
  simp only [List.length_append] at hr
  have hsz:sizeL (Node.mk t [] k0::l)=1+sizeL k0+sizeL l:=by simp [sizeL,sizeN]
  rw [hsz] at hc ⊢
  have hl:=lenX_atS false h3 (by omega) a3
  have hbd:=a5.1
  obtain ⟨k,rfl⟩:∃ k',k=k'+1:=⟨k-1,by omega⟩
  refine .cons (p1:=p+(tagB t).length+f.length+c0.length) (c1:=c+1+sizeL k0) ?_ g2 ?_ ?_
  ·have:=(tagX_inv (b:=b) (e:=e) (p:=p) (by rw [g1])).1
   rw [g1] at this;simp only at this;omega
  ·rw [objX,g1]
   simp only [ne_eq,not_true_eq_false,if_false]
   rw [Bool.not_true,Bool.and_false,hl]
   unfold objY
   simp only [ne_eq,not_true_eq_false,if_false]
   rw [if_neg (by omega),if_neg (by omega),if_neg (by omega),if_neg (by omega),if_pos h1]
   rw [Int.toNat_natCast]
   have hst:=ihk k (d+1) (p+(tagB t).length+f.length+c0.length) (p+(tagB t).length+f.length) (c+1) (by rw [chkL_any _ _ 0 1];exact t5) (by omega) (by omega) (by omega) (by omega) (a5.mono (by omega))
   have hln:=hst.len (objX_ok b true (k+1) _ (d+1)) (by omega) (by omega)
   rw [hst.loop rfl _ _ (by omega),List.nil_append]
  ·have:=ih (k+1) d e (p+(tagB t).length+f.length+c0.length) (c+1+sizeL k0) c2 hk (by omega) (by omega) he a6
   simp only [List.length_append]
   rw [show p+((tagB t).length+(f.length+(c0.length+r.length)))=p+(tagB t).length+f.length+c0.length+r.length by omega,show c+(1+sizeL k0+sizeL l)=c+1+sizeL k0+sizeL l by omega]
   exact this
theorem encS_parse {l:List Node} {r:List UInt8} (h:EncS l r) (hc:(chkL 1 l 0).1=0) (hs:sizeL l≤256) (hr:r.length≤4096):parseX r true=(l,0):=by
 have hst:=encS_steps r h 8 1 r.length 0 0 hc rfl (by omega) (by omega) (Nat.le_refl _) (At.whole r)
 have hln:=hst.len (objX_ok r true 9 _ 1) (by omega) (by omega)
 unfold parseX
 rw [if_neg (by omega),hst.loop (by omega) _ _ (by omega),List.nil_append]
end Tdoc
/- datagroups.Infos of the program = infosF. -/
set_option linter.unusedVariables false
set_option linter.unusedSimpArgs false
namespace Tdoc
open Go Go.Proofs
theorem wrL_encS:∀ (n:Nat) (l:List Node),sizeL l≤n→(wrL l).length≤4096→EncS l (wrL l)
 | _,[],_,_=>.nil
 | 0,.mk t v k::l,h,_=>by simp only [sizeL,sizeN] at h;omega
 | n+1,.mk t v k::l,h,hw=>by
  have hs:sizeL k≤n∧sizeL l≤n:=by simp only [sizeL,sizeN] at h;omega
  by_cases hc:tagCons t=true
  ·have e:wrL (.mk t v k::l)=tagB t++(lenB (wrL k).length++(wrL k++wrL l)):=by simp [wrL,wrN,hc]
   rw [e] at hw ⊢
   simp only [List.length_append] at hw
   exact .cons hc (wrL_encS n k hs.1 (by omega)) (lenB_S (by omega)) (wrL_encS n l hs.2 (by omega))
  ·have hc':tagCons t=false:=by simpa using hc
   have e:wrL (.mk t v k::l)=tagB t++(lenB v.length++(v++wrL l)):=by simp [wrL,wrN,hc']
   rw [e] at hw ⊢
   simp only [List.length_append] at hw
   exact .prim hc' (lenB_S (by omega)) (wrL_encS n l hs.2 (by omega))
theorem chk_objI (x:Inf):(chkN 2 (objI x) 0).1=0:=by
 have t1:tagOk 48=true:=by decide
 have t2:tagCons 48=true:=by decide
 have t3:tagOk 6=true:=by decide
 have t4:tagCons 6=false:=by decide
 have t5:tagOk 2=true:=by decide
 have t6:tagCons 2=false:=by decide
 have t7:tagOk 4=true:=by decide
 have t8:tagCons 4=false:=by decide
 unfold objI
 split
 ·simp [chkN,chkL,t1,t2,t3,t4,t5,t6]
 split
 ·simp [chkN,chkL,t1,t2,t3,t4,t5,t6,t7,t8]
 ·simp [chkN,chkL,t1,t2,t3,t4,t5,t6]
theorem chk_setI (l:List Inf):(chkL 1 [setI l] 0).1=0:=by
 have t1:tagOk 49=true:=by decide
 have t2:tagCons 49=true:=by decide
 have hk:∀ c,(chkL 2 (l.map objI) c).1=0:=fun c=>chkL_of fun n hn=>by
  obtain ⟨x,_,rfl⟩:=List.mem_map.1 hn
  exact chk_objI x
 have h1:(chkN 1 (setI l) 0).1=0:=by
  unfold setI
  rw [chkN,if_neg (by simp [t1]),if_neg (by simp [t2]),if_neg (by omega)]
  exact hk _
 exact chkL_of fun n hn=>by rw [List.mem_singleton.1 hn];exact h1
theorem encI_parse (l:List Inf) (h0:validI l=0):(encodeP [setI l]).2=0∧(encodeP [setI l]).1.length≤10000∧(parseX (encodeP [setI l]).1 true).1=[setI l]:=by
 obtain ⟨g1,g3⟩:=validI_ok h0
 obtain ⟨f1,f2⟩:=setI_fit g1
 have hc:=chk_setI l
 have hcnt:=chkL_count 1 [setI l] 0
 have hw:(wrL [setI l]).length≤4096:=by
  have h1:=wrObjIs l
  have h2:=qAl 49 [] (l.map objI) []
  have h3:(wrL ([]:List Node)).length=0:=rfl
  unfold setI
  simp only [List.length_nil] at *
  omega
 have he:encodeP [setI l]=(wrL [setI l],0):=by
  unfold encodeP
  rw [if_neg (by rw [hc];simp),if_neg (by omega),if_neg (by omega)]
 rw [he]
 refine ⟨rfl,by simp only;omega,?_⟩
 simp only
 rw [encS_parse (wrL_encS _ _ (Nat.le_refl _) hw) hc (by omega) hw]
theorem infosP_spec (l:List Inf) (hl:l.length≤1000000):Spec Tryz.prog 32 [.d (.sl 5 (encFs l))] [] (fun r h'=>r=.tup [.d (.sl 1 (encB (infosF l).1)),.d (.int .i64 (infosF l).2)]∧h'=[]) :=
 infosP_walk l hl fun h0=>encI_parse l h0
end Tdoc
/- Plain: made names and signs are right. -/
set_option linter.unusedVariables false
set_option linter.unusedSimpArgs false
namespace Tdoc
open Go Go.Proofs
theorem isUp_ne {c:UInt8} (h:isUp c=true):c≠32:=by rintro rfl;revert h;decide
theorem nameL_up:∀ (b:Bool) (w:List UInt8),w.all isUp=true→nameL b w=true
 | _,[],_=>rfl
 | b,c::w,h=>by
  rw [List.all_cons,Bool.and_eq_true] at h
  rw [nameL,if_neg (isUp_ne h.1),nameL_up false w h.2,Bool.and_true]
  exact h.1
theorem nameL_join:∀ (b:Bool) (s w:List UInt8),nameL b s=true→s≠[]→w≠[]→w.all isUp=true→nameL b (s++32::w)=true
 | _,[],_,_,h,_,_=>absurd rfl h
 | b,[c],w,h,_,hw,hu=>by
  rw [nameL] at h
  split at h
  ·simp at h
  ·rename_i h1
   rw [nameL,Bool.and_true] at h
   rw [List.cons_append,List.nil_append,nameL,if_neg h1,h,Bool.true_and,nameL,if_pos rfl,nameL_up true w hu]
   cases w with
   | nil=>exact absurd rfl hw
   | cons x w=>rfl
 | b,c::c2::s,w,h,_,hw,hu=>by
  rw [nameL] at h
  rw [List.cons_append,nameL]
  split at h
  ·rename_i h1
   rw [if_pos h1]
   simp only [Bool.and_eq_true] at h
   rw [nameL_join true (c2::s) w h.2 (by simp) hw hu,h.1.1]
   rfl
  ·rename_i h1
   rw [if_neg h1]
   rw [Bool.and_eq_true] at h
   rw [nameL_join false (c2::s) w h.2 (by simp) hw hu,h.1]
   rfl
def NameM (w:Nat) (s:List UInt8):Prop:=nameL true s=true∧s.length≤11*w
theorem NameM.first {k:Nat} {w:List UInt8} (hu:w.all isUp=true) (hl:w.length≤10):NameM (k+1) w:=⟨nameL_up _ _ hu,by omega⟩
theorem NameM.next {k:Nat} {s w:List UInt8} (h:NameM k s) (hs:s≠[]) (hu:w.all isUp=true) (hl:w.length≤10) (hw:w≠[]):NameM (k+1) (s++32::w):=⟨nameL_join _ _ _ h.1 hs hw hu,by have:=h.2;simp;omega⟩
def signC:List UInt8:=[48,49,50,51,52,53,54,55,56,57,65,66,67,68,69,70,71,72,73,74,75,76,77,78,79,80,81,82,83,84,85,86,87,88,89,90]
theorem signC_plain:plainF signC=true:=by decide
def SignM (n:Nat) (s:List UInt8):Prop:=plainF s=true∧1≤s.length∧s.length≤n
theorem plainF_append (a b:List UInt8):plainF (a++b)=(plainF a&&plainF b):=List.all_append
end Tdoc
/- Dice: names, signs, days. -/
set_option maxHeartbeats 8000000
set_option maxRecDepth 100000
set_option linter.unusedVariables false
set_option linter.unusedSimpArgs false
namespace Tdoc
open Go Go.Proofs
def wordT:List (List UInt8):=[[65],[69,82,73,75,83,83,79,78],[77,65,82,73,65],[68,69],[76,79,83],[79,75],[86,65,78,68,69,82,86,65,76,75],[90,90]]
theorem wordT_ok:∀ w,w∈wordT→w.all isUp=true∧w.length≤10∧w≠[]:=by decide
def wordRow:List AV:=wordT.map fun w=>.d (.str w)
theorem wordRow_at {x:Int} (h1:0≤x) (h2:x < 8):∃ w,wordRow[0+x.toNat*1]?=some (.d (.str w))∧w.all isUp=true∧w.length≤10∧w≠[]:=by
 have hl:x.toNat < wordT.length:=by show x.toNat < 8;omega
 exact ⟨wordT[x.toNat],by simp [wordRow,hl],wordT_ok _ (List.getElem_mem hl)⟩
def DNameP (L:List Int) (w:Nat) (x:List UInt8×Nat):Prop:=NameM w x.1∧x.2≤L.length
theorem NameM.mono {a b:Nat} {s:List UInt8} (h:NameM a s) (hab:a≤b):NameM b s:=⟨h.1,by have:=h.2;omega⟩
theorem DName_spec (L:List Int) (hL:L.length≤1000000) (a:Nat) (ha:a≤L.length) (w:Nat) (hw:w≤100) :
  Spec Tryz.prog 60 [.ptr 0 0,.d (.int .i64 (w:Int))] [.row (diceR L a)] (fun r h'=>∃ x,DNameP L w x∧r=.d (.str x.1)∧h'=[.row (diceR L x.2)]):=by
 have hN:=fun a ha n h1 hn=>qCs L hL a ha n h1 hn
 have hw0:IntKind.i64.wrap ((w:Int)+1)=((w+1:Nat):Int):=by rw [qAe (by omega)];omega
 refine qAb hT Tryz.func60 rfl rfl rfl rfl ?_;intro E hE
 refine ww ?_
 refine qAv (callX rfl rfl (hN a ha ((w+1:Nat):Int) (by omega) (by omega)) [0] (by decide) rfl (by rw [← hw0];rfl) rfl rfl (fun _=>rfl) (fun _=>rfl) (fun _=>rfl)) rfl ?_
 rintro ⟨m,a1⟩ ⟨q1,q2,q3⟩
 simp only at q1 q2 q3 ⊢
 obtain ⟨m,rfl⟩:∃ m':Nat,m=(m':Int):=⟨m.toNat,by omega⟩
 refine ww ?_
 refine qAn (ι:=Nat×Nat×List UInt8) (fun x=>[(0,.ptr 0 0),(5,.ptr 1 0),(6,.d (.str x.2.2)),(7,.d (.int .i64 (x.2.1:Int)))]) (fun x=>[.row (diceR L x.1),.row wordRow])
  (fun x=>x.1≤L.length∧∃ k,NameM k x.2.2∧k+x.2.1≤w) (fun x=>x.2.1) (a1,m,[]) ⟨q3,0,⟨rfl,by simp⟩,by simp only;omega⟩ ⟨.refl _,.refl _,.refl _,.refl _,trivial⟩ (HLe.refl _) ?_
 rintro ⟨b,m,s⟩ ⟨h1,k,hk,hkm⟩
 simp only at h1 hk hkm ⊢
 have hsl:=hk.2
 refine ww ?_
 refine qAa rfl (fun h3=>?_) (fun h3=>?_)
 ·obtain ⟨m,rfl⟩:∃ m',m=m'+1:=⟨m-1,by simp at h3;omega⟩
  have hwm:IntKind.i64.wrap (((m+1:Nat):Int)-1)=(m:Int):=by rw [qAe (by omega)];omega
  refine ww ?_
  refine qAa rfl (fun h4=>?_) (fun h4=>?_)
  ·have h4':s≠[]:=by simpa using h4
   refine ww ?_
   refine qAv (callX rfl rfl (hN b h1 8 (by omega) (by omega)) [0] (by decide) rfl rfl rfl rfl (fun _=>rfl) (fun _=>rfl) (fun _=>rfl)) rfl ?_
   rintro ⟨x,b2⟩ ⟨r1,r2,r3⟩
   simp only at r1 r2 r3 ⊢
   obtain ⟨wd,e1,e2,e3,e4⟩:=wordRow_at r1 r2
   refine ww ?_
   refine qAd (qAc (qAm hT rfl rfl rfl rfl ⟨r1,r2⟩)) rfl ?_
   refine qAd (qBt hT rfl rfl rfl rfl rfl e1) rfl ?_
   refine ww ?_
   refine ⟨(b2,m,s++32::wd),⟨r3,k+1,hk.next h4' e2 e3 e4,by simp only;omega⟩,by simp only;omega,⟨.refl _,.refl _,.str ?_,.int hwm,trivial⟩,HLe.refl _⟩
   simp
  ·have h4':s=[]:=by simpa using h4
   subst h4'
   refine ww ?_
   refine qAv (callX rfl rfl (hN b h1 8 (by omega) (by omega)) [0] (by decide) rfl rfl rfl rfl (fun _=>rfl) (fun _=>rfl) (fun _=>rfl)) rfl ?_
   rintro ⟨x,b2⟩ ⟨r1,r2,r3⟩
   simp only at r1 r2 r3 ⊢
   obtain ⟨wd,e1,e2,e3,e4⟩:=wordRow_at r1 r2
   refine ww ?_
   refine qAd (qAc (qAm hT rfl rfl rfl rfl ⟨r1,r2⟩)) rfl ?_
   refine qAd (qBt hT rfl rfl rfl rfl rfl e1) rfl ?_
   refine ww ?_
   exact ⟨(b2,m,wd),⟨r3,k+1,.first e2 e3,by simp only;omega⟩,by simp only;omega,⟨.refl _,.refl _,.refl _,.int hwm,trivial⟩,HLe.refl _⟩
 ·refine ww ?_
  exact ret_q ⟨(s,b),⟨hk.mono (by omega),h1⟩,rfl,rfl⟩ rfl (.refl _) rfl rfl rfl rfl
def DSignP (L:List Int) (n:Nat) (x:List UInt8×Nat):Prop:=SignM n x.1∧x.2≤L.length
theorem DSigns_spec (L:List Int) (hL:L.length≤1000000) (a:Nat) (ha:a≤L.length) (n:Nat) (h1:1≤n) (hn:n≤100) :
  Spec Tryz.prog 61 [.ptr 0 0,.d (.int .i64 (n:Int))] [.row (diceR L a)] (fun r h'=>∃ x,DSignP L n x∧r=.d (.str x.1)∧h'=[.row (diceR L x.2)]):=by
 have hN:=fun a ha n h1 hn=>qCs L hL a ha n h1 hn
 refine qAb hT Tryz.func61 rfl rfl rfl rfl ?_;intro E hE
 refine ww ?_
 refine qAv (callX rfl rfl (hN a ha (n:Int) (by omega) (by omega)) [0] (by decide) rfl rfl rfl rfl (fun _=>rfl) (fun _=>rfl) (fun _=>rfl)) rfl ?_
 rintro ⟨m,a1⟩ ⟨q1,q2,q3⟩
 simp only at q1 q2 q3 ⊢
 obtain ⟨m,rfl⟩:∃ m':Nat,m=(m':Int):=⟨m.toNat,by omega⟩
 have hw0:IntKind.i64.wrap (1+(m:Int))=((m+1:Nat):Int):=by rw [qAe (by omega)];omega
 refine ww ?_
 refine qAo (qBa 5 1 1 (es:=[]) (.inr ⟨rfl,rfl⟩) rfl ?_)
 refine qAn (ι:=Nat×Nat×List UInt8) (fun x=>[(0,.ptr 0 0),(5,.sl 1 (encB x.2.2) (.right 1)),(6,.d (.int .i64 (x.2.1:Int)))]) (fun x=>[.row (diceR L x.1),.right 1 (encB x.2.2).length])
  (fun x=>x.1≤L.length∧plainF x.2.2=true∧x.2.2.length+x.2.1≤n∧1≤x.2.2.length+x.2.1) (fun x=>x.2.1) (a1,m+1,[]) ⟨q3,rfl,by simp;omega,by simp⟩ ⟨.refl _,.refl _,.int hw0,trivial⟩ (HLe.refl _) ?_
 rintro ⟨b,m,out⟩ ⟨h1,h2,h3,h4⟩
 simp only at h1 h2 h3 h4 ⊢
 have hol:=qAj out
 refine ww ?_
 refine qAa rfl (fun h5=>?_) (fun h5=>?_)
 ·obtain ⟨m,rfl⟩:∃ m',m=m'+1:=⟨m-1,by simp at h5;omega⟩
  refine ww ?_
  refine qAv (callX rfl rfl (hN b h1 36 (by omega) (by omega)) [0] (by decide) rfl rfl rfl rfl (fun _=>rfl) (fun _=>rfl) (fun _=>rfl)) rfl ?_
  rintro ⟨x,b2⟩ ⟨r1,r2,r3⟩
  simp only at r1 r2 r3 ⊢
  have hxl:x.toNat < signC.length:=by show x.toNat < 36;omega
  have hsx:strAt signC x=bI signC[x.toNat]:=by
   have:=qCv hxl
   rw [Int.toNat_of_nonneg r1] at this
   exact this
  have hmem:plainF [signC[x.toNat]]=true:=by
   have:=signC_plain
   unfold plainF at this ⊢
   rw [List.all_eq_true] at this
   simpa using this _ (List.getElem_mem hxl)
  have hsc:strAt (ByteArray.mk #[48,49,50,51,52,53,54,55,56,57,65,66,67,68,69,70,71,72,73,74,75,76,77,78,79,80,81,82,83,84,85,86,87,88,89,90]).data.toList x=bI signC[x.toNat]:=hsx
  generalize signC[x.toNat]=c at hsc hmem
  have hlen:0≤x∧x < ((ByteArray.mk #[48,49,50,51,52,53,54,55,56,57,65,66,67,68,69,70,71,72,73,74,75,76,77,78,79,80,81,82,83,84,85,86,87,88,89,90]).data.toList.length:Int):=⟨r1,r2⟩
  refine ww ?_
  refine qAd (qAi (i:=1) hT rfl rfl rfl rfl rfl rfl (by show ((encB out).length+1)*(1+1)≤_;first | omega | (simp only [qAj,qAp,List.length_append,List.length_cons,List.length_nil];omega))) rfl ?_
  have hwm:IntKind.i64.wrap (((m+1:Nat):Int)-1)=(m:Int):=by rw [qAe (by omega)];omega
  refine ww ?_
  have hres:encB (out++[c])=encB out++[[Dat.int .u8 (strAt (ByteArray.mk #[48,49,50,51,52,53,54,55,56,57,65,66,67,68,69,70,71,72,73,74,75,76,77,78,79,80,81,82,83,84,85,86,87,88,89,90]).data.toList x)]]:=by rw [qBq,hsc];rfl
  exact ⟨(b2,m,out++[c]),⟨r3,by rw [plainF_append,h2,hmem];rfl,by simp only [List.length_append,List.length_singleton];omega,by simp only [List.length_append,List.length_singleton];omega⟩,by simp only;omega,⟨.refl _,AV.le.eq (by rw [hres];rfl),.int hwm,trivial⟩,⟨ObLe.refl _,⟨rfl,by rw [hres]⟩,trivial⟩⟩
 ·have h5':m=0:=by simp at h5;omega
  subst h5'
  refine wwe ?_
  refine qAt (qAk ?_)
  refine wws ?_
  refine qCp hT rfl rfl (qDk out) ?_
  refine ww ?_
  refine ret_q (r:=.d (.str out)) ⟨(out,b),⟨⟨h2,by omega,by omega⟩,h1⟩,rfl,rfl⟩ rfl ?_ rfl rfl rfl rfl
  rw [bytesOf_encB]
  exact .refl _
theorem DDay_spec (L:List Int) (hL:L.length≤1000000) (a:Nat) (ha:a≤L.length) :
  Spec Tryz.prog 63 [.ptr 0 0] [.row (diceR L a)] (fun r h'=>∃ x,NextP L 72900 x∧r=.d (.int .i64 x.1)∧h'=[.row (diceR L x.2)]):=by
 have hN:=fun a ha n h1 hn=>qCs L hL a ha n h1 hn
 refine qAb hT Tryz.func63 rfl rfl rfl rfl ?_;intro E hE
 refine ww ?_
 refine qAv (callX rfl rfl (hN a ha 243 (by omega) (by omega)) [0] (by decide) rfl rfl rfl rfl (fun _=>rfl) (fun _=>rfl) (fun _=>rfl)) rfl ?_
 rintro ⟨m,a1⟩ ⟨q1,q2,q3⟩
 simp only at q1 q2 q3 ⊢
 refine ww ?_
 refine qAv (callX rfl rfl (hN a1 q3 300 (by omega) (by omega)) [0] (by decide) rfl rfl rfl rfl (fun _=>rfl) (fun _=>rfl) (fun _=>rfl)) rfl ?_
 rintro ⟨k,a2⟩ ⟨r1,r2,r3⟩
 simp only at r1 r2 r3 ⊢
 have hw:IntKind.i64.wrap (IntKind.i64.wrap (m*300)+k)=m*300+k:=by rw [qAe (n:=m*300) (by omega),qAe (by omega)]
 refine ww ?_
 exact ret_q ⟨(m*300+k,a2),⟨by simp only;omega,by simp only;omega,r3⟩,rfl,rfl⟩ rfl (.int hw) rfl rfl rfl rfl
end Tdoc
/- Dice: exact contracts of a number and of signs; templates. -/
set_option maxHeartbeats 8000000
set_option maxRecDepth 100000
set_option linter.unusedVariables false
set_option linter.unusedSimpArgs false
namespace Tdoc
open Go Go.Proofs
def nxV (L:List Int) (a:Nat) (n:Int):Int:=match L[a]? with
 | none=>0
 | some x=>x % n
def nxA (L:List Int) (a:Nat):Nat:=if a < L.length then a+1 else a
theorem qCq {L:List Int} {a:Nat} (h:a≤L.length):nxA L a≤L.length:=by unfold nxA;split <;> omega
theorem nxV_range {L:List Int} {a:Nat} {n:Int} (h:1≤n):0≤nxV L a n∧nxV L a n < n:=by
 unfold nxV
 split
 ·omega
 ·exact ⟨Int.emod_nonneg _ (by omega),Int.emod_lt_of_pos _ (by omega)⟩
theorem NextD_spec (l:List Int) (hl:l.length≤1000000) (a:Nat) (ha:a≤l.length) (n:Int) (h1:1≤n) (hn:n≤4611686018427387904) :
  Spec Tryz.prog 12 [.ptr 0 0,.d (.int .i64 n)] [.row (diceR l a)] (fun r h'=>r=.d (.int .i64 (nxV l a n))∧h'=[.row (diceR l (nxA l a))]):=by
 have hll:=qDn l
 unfold diceR
 refine qAb hT Tryz.func12 rfl rfl rfl rfl ?_;intro E hE
 refine ww ?_
 refine qAa rfl (fun h2=>?_) (fun h2=>?_)
 ·have h2':¬ a < l.length:=by rw [hll] at h2;simp at h2;omega
  have hv:nxV l a n=0:=by unfold nxV;rw [List.getElem?_eq_none (by omega)]
  have hv2:nxA l a=a:=by unfold nxA;rw [if_neg h2']
  rw [hv,hv2]
  refine ww ?_
  exact wwr
 ·have h2':a < l.length:=by rw [hll] at h2;simp at h2;omega
  have hw1:IntKind.i64.wrap ((a:Int)+1)=((a+1:Nat):Int):=by rw [qAe (by omega)];simp
  have hw2:IntKind.i64.wrap (((a+1:Nat):Int)-1)=(a:Int):=by rw [qAe (by omega)];omega
  have h0:0≤IntKind.i64.wrap (IntKind.i64.wrap ((a:Int)+1)-1):=by rw [hw1,hw2];omega
  have hel:(encI l)[(IntKind.i64.wrap (IntKind.i64.wrap ((a:Int)+1)-1)).toNat]?=some [.int .i64 l[a]]:=by rw [hw1,hw2];simp [encI,h2']
  have hm:=Mod_spec l[a] n h1 hn
  have hv:nxV l a n=l[a] % n:=by unfold nxV;rw [List.getElem?_eq_getElem h2']
  have hv2:nxA l a=a+1:=by unfold nxA;rw [if_pos h2']
  rw [hv,hv2]
  generalize l[a]=x at hel hm
  refine ww ?_
  refine qBc (qAc (qAh hT rfl rfl rfl rfl h0 hel)) rfl rfl ?_
  refine ww ?_
  refine wwc hm ?_
  refine ww ?_
  refine ret_q ⟨rfl,rfl⟩ rfl (.refl _) ?_ rfl rfl rfl
  rw [hw1];rfl
def sgC (x:Int):UInt8:=signC.getD x.toNat 0
def sgF (L:List Int) (a:Nat):Nat→List UInt8×Nat
 | 0=>([],a)
 | m+1=>(sgC (nxV L a 36)::(sgF L (nxA L a) m).1,(sgF L (nxA L a) m).2)
def signF (L:List Int) (a n:Nat):List UInt8×Nat:=sgF L (nxA L a) ((nxV L a n).toNat+1)
theorem sgC_plain {x:Int} (h:0≤x∧x < 36):plainF [sgC x]=true:=by
 have hxl:x.toNat < signC.length:=by show x.toNat < 36;omega
 have:=signC_plain
 unfold plainF at this ⊢
 rw [List.all_eq_true] at this
 have hg:sgC x=signC[x.toNat]:=by unfold sgC;simp [hxl]
 rw [hg]
 simpa using this _ (List.getElem_mem hxl)
theorem sgF_ok {L:List Int}:∀ (m a:Nat),a≤L.length→plainF (sgF L a m).1=true∧(sgF L a m).1.length=m∧(sgF L a m).2≤L.length
 | 0,a,h=>⟨rfl,rfl,h⟩
 | m+1,a,h=>by
  obtain ⟨h1,h2,h3⟩:=sgF_ok m (nxA L a) (qCq h)
  refine ⟨?_,by simp [sgF,h2],h3⟩
  show plainF ([sgC (nxV L a 36)]++(sgF L (nxA L a) m).1)=true
  rw [plainF_append,h1,sgC_plain (nxV_range (by omega))];rfl
theorem signF_ok {L:List Int} {a n:Nat} (ha:a≤L.length) (hn:1≤n):SignM n (signF L a n).1∧(signF L a n).2≤L.length:=by
 have hv:=nxV_range (L:=L) (a:=a) (n:=(n:Int)) (by omega)
 obtain ⟨h1,h2,h3⟩:=sgF_ok (L:=L) ((nxV L a n).toNat+1) (nxA L a) (qCq ha)
 exact ⟨⟨h1,by show 1≤(sgF L (nxA L a) ((nxV L a n).toNat+1)).1.length;omega,by show (sgF L (nxA L a) ((nxV L a n).toNat+1)).1.length≤n;omega⟩,h3⟩
theorem SignsD_spec (L:List Int) (hL:L.length≤1000000) (a:Nat) (ha:a≤L.length) (n:Nat) (h1:1≤n) (hn:n≤100) :
  Spec Tryz.prog 61 [.ptr 0 0,.d (.int .i64 (n:Int))] [.row (diceR L a)] (fun r h'=>r=.d (.str (signF L a n).1)∧h'=[.row (diceR L (signF L a n).2)]):=by
 have hN:=NextD_spec L hL a ha (n:Int) (by omega) (by omega)
 have hv:=nxV_range (L:=L) (a:=a) (n:=(n:Int)) (by omega)
 have hA:=qCq ha
 unfold signF
 generalize nxV L a n=m at hN hv
 generalize nxA L a=a1 at hN hA
 obtain ⟨m,rfl⟩:∃ m':Nat,m=(m':Int):=⟨m.toNat,by omega⟩
 rw [Int.toNat_natCast]
 have hw0:IntKind.i64.wrap (1+(m:Int))=((m+1:Nat):Int):=by rw [qAe (by omega)];omega
 generalize hfin:sgF L a1 (m+1)=fin
 refine qAb hT Tryz.func61 rfl rfl rfl rfl ?_;intro E hE
 refine ww ?_
 refine qAd (callS1 rfl rfl (hN) [0] (by decide) rfl rfl rfl rfl rfl rfl rfl) rfl ?_
 refine ww ?_
 refine qAo (qBa 5 1 1 (es:=[]) (.inr ⟨rfl,rfl⟩) rfl ?_)
 refine qAn (ι:=Nat×Nat×List UInt8) (fun x=>[(0,.ptr 0 0),(5,.sl 1 (encB x.2.2) (.right 1)),(6,.d (.int .i64 (x.2.1:Int)))]) (fun x=>[.row (diceR L x.1),.right 1 (encB x.2.2).length])
  (fun x=>x.1≤L.length∧x.2.2++(sgF L x.1 x.2.1).1=fin.1∧(sgF L x.1 x.2.1).2=fin.2∧x.2.2.length+x.2.1≤n) (fun x=>x.2.1) (a1,m+1,[]) ⟨hA,by simp only [hfin,List.nil_append],by simp only [hfin],by simp;omega⟩ ⟨.refl _,.refl _,.int hw0,trivial⟩ (HLe.refl _) ?_
 rintro ⟨b,m,out⟩ ⟨h1,h2,h3,h4⟩
 simp only at h1 h2 h3 h4 ⊢
 have hol:=qAj out
 refine ww ?_
 refine qAa rfl (fun h5=>?_) (fun h5=>?_)
 ·obtain ⟨m,rfl⟩:∃ m',m=m'+1:=⟨m-1,by simp at h5;omega⟩
  have hN:=NextD_spec L hL b h1 36 (by omega) (by omega)
  have hv:=nxV_range (L:=L) (a:=b) (n:=36) (by omega)
  have hA:=qCq h1
  rw [sgF] at h2 h3
  simp only at h2 h3
  generalize nxA L b=b2 at hN hA h2 h3
  generalize nxV L b 36=x at hN hv h2 h3
  have hxl:x.toNat < signC.length:=by show x.toNat < 36;omega
  have hsx:strAt signC x=bI (sgC x):=by
   have:=qCv hxl
   rw [Int.toNat_of_nonneg hv.1] at this
   rw [this];unfold sgC;simp [hxl]
  have hsc:strAt (ByteArray.mk #[48,49,50,51,52,53,54,55,56,57,65,66,67,68,69,70,71,72,73,74,75,76,77,78,79,80,81,82,83,84,85,86,87,88,89,90]).data.toList x=bI (sgC x):=hsx
  generalize sgC x=c at hsc h2
  have hlen:0≤x∧x < ((ByteArray.mk #[48,49,50,51,52,53,54,55,56,57,65,66,67,68,69,70,71,72,73,74,75,76,77,78,79,80,81,82,83,84,85,86,87,88,89,90]).data.toList.length:Int):=hv
  refine ww ?_
  refine qAd (callS1 rfl rfl (hN) [0] (by decide) rfl rfl rfl rfl rfl rfl rfl) rfl ?_
  refine ww ?_
  refine qAd (qAi (i:=1) hT rfl rfl rfl rfl rfl rfl (by show ((encB out).length+1)*(1+1)≤_;first | omega | (simp only [qAj,qAp,List.length_append,List.length_cons,List.length_nil];omega))) rfl ?_
  have hwm:IntKind.i64.wrap (((m+1:Nat):Int)-1)=(m:Int):=by rw [qAe (by omega)];omega
  refine ww ?_
  have hres:encB (out++[c])=encB out++[[Dat.int .u8 (strAt (ByteArray.mk #[48,49,50,51,52,53,54,55,56,57,65,66,67,68,69,70,71,72,73,74,75,76,77,78,79,80,81,82,83,84,85,86,87,88,89,90]).data.toList x)]]:=by rw [qBq,hsc];rfl
  exact ⟨(b2,m,out++[c]),⟨hA,by rw [← h2];simp,h3,by simp only [List.length_append,List.length_singleton];omega⟩,by simp only;omega,⟨.refl _,AV.le.eq (by rw [hres];rfl),.int hwm,trivial⟩,⟨ObLe.refl _,⟨rfl,by rw [hres]⟩,trivial⟩⟩
 ·have h5':m=0:=by simp at h5;omega
  subst h5'
  simp only [sgF,List.append_nil] at h2 h3
  subst h2
  subst h3
  refine wwe ?_
  refine qAt (qAk ?_)
  refine wws ?_
  refine qCp hT rfl rfl (qDk fin.1) ?_
  refine ww ?_
  refine ret_q (r:=.d (.str fin.1)) ⟨rfl,rfl⟩ rfl ?_ rfl rfl rfl rfl
  rw [bytesOf_encB]
  exact .refl _
theorem BytesO_spec (l:List Int) (hl:l.length≤1000000) (a:Nat) (ha:a≤l.length) (n:Nat) (hn:n≤1000000) :
  Spec Tryz.prog 112 [.ptr 0 0,.d (.int .i64 (n:Int))] [.row (diceR l a),.room] (fun r h'=>∃ x,BytesP l n x∧r=.sl 1 (encB x.1) (.right 1)∧h'=[.row (diceR l x.2),.right 1 (encB x.1).length]):=by
 have hN:=fun a ha n h1 hn=>qCs l hl a ha n h1 hn
 have hw0:IntKind.i64.wrap ((n:Int)+1)=((n+1:Nat):Int):=by rw [qAe (by omega)];omega
 refine qAb hT Tryz.func112 rfl rfl rfl rfl ?_;intro E hE
 refine ww ?_
 refine qAv (callX rfl rfl (hN a ha ((n+1:Nat):Int) (by omega) (by omega)) [0] (by decide) rfl (by rw [← hw0];rfl) rfl rfl (fun _=>rfl) (fun _=>rfl) (fun _=>rfl)) rfl ?_
 rintro ⟨m,a1⟩ ⟨q1,q2,q3⟩
 simp only at q1 q2 q3 ⊢
 obtain ⟨m,rfl⟩:∃ m':Nat,m=(m':Int):=⟨m.toNat,by omega⟩
 refine ww ?_
 refine qBa 5 1 1 (es:=[]) (.inr ⟨rfl,rfl⟩) rfl ?_
 refine qAn (ι:=Nat×Nat×List UInt8) (fun x=>[(0,.ptr 0 0),(5,.sl 1 (encB x.2.2) (.right 1)),(6,.d (.int .i64 (x.2.1:Int)))]) (fun x=>[.row (diceR l x.1),.right 1 (encB x.2.2).length])
  (fun x=>x.1≤l.length∧x.2.2.length+x.2.1≤n) (fun x=>x.2.1) (a1,m,[]) ⟨q3,by simp;omega⟩ ⟨.refl _,.refl _,.refl _,trivial⟩ (HLe.refl _) ?_
 rintro ⟨b,m,out⟩ ⟨h1,h2⟩
 simp only at h1 h2 ⊢
 have hol:=qAj out
 refine ww ?_
 refine qAa rfl (fun h3=>?_) (fun h3=>?_)
 ·obtain ⟨m,rfl⟩:∃ m',m=m'+1:=⟨m-1,by simp at h3;omega⟩
  refine ww ?_
  refine qAv (callX rfl rfl (hN b h1 256 (by omega) (by omega)) [0] (by decide) rfl rfl rfl rfl (fun _=>rfl) (fun _=>rfl) (fun _=>rfl)) rfl ?_
  rintro ⟨x,b2⟩ ⟨r1,r2,r3⟩
  simp only at r1 r2 r3 ⊢
  have hx:=u8_of ⟨r1,r2⟩
  refine ww ?_
  refine qAd (qAi (i:=1) hT rfl rfl rfl rfl rfl rfl (by show ((encB out).length+1)*(1+1)≤_;omega)) rfl ?_
  have hwm:IntKind.i64.wrap (((m+1:Nat):Int)-1)=(m:Int):=by rw [qAe (by omega)];omega
  refine ww ?_
  have hres:encB (out++[UInt8.ofNat x.toNat])=encB out++[[Dat.int .u8 (IntKind.u8.wrap x)]]:=by rw [qBq,hx];rfl
  exact ⟨(b2,m,out++[UInt8.ofNat x.toNat]),⟨r3,by simp only [List.length_append,List.length_singleton];omega⟩,by simp only;omega,⟨.refl _,AV.le.eq (by rw [hres];rfl),.int hwm,trivial⟩,⟨ObLe.refl _,⟨rfl,by rw [hres]⟩,trivial⟩⟩
 ·refine ww ?_
  exact ret_q ⟨(out,b),⟨by simp only;omega,h1⟩,rfl,rfl⟩ rfl (.refl _) rfl rfl rfl rfl
theorem validT_mk {t:Tpl} (hk:(t.kind=1∧t.part=0)∨(t.kind=2∧1≤t.part∧t.part≤10)∨(t.kind=3∧1≤t.part∧t.part≤2)) (h1:0≤t.frm∧t.frm≤t.til∧t.til≤73048) (h2:0≤t.fmt∧t.fmt≤65535)
  (h3:0≤t.qual∧t.qual≤100) (h4:1≤t.data.length∧t.data.length≤1024):validT t=0:=by
 have hm:mostT t.kind=if t.kind=2 then 10 else if t.kind=3 then 2 else 0:=rfl
 have d1:dayOk t.frm=true:=decide_eq_true ⟨h1.1,by omega⟩
 have d2:dayOk t.til=true:=decide_eq_true ⟨by omega,h1.2.2⟩
 unfold validT
 rw [if_neg (by omega)]
 rw [if_neg (by rw [hm];split <;> (try split) <;> omega)]
 rw [if_neg (by rw [d1,d2];simp;omega)]
 rw [if_neg (by omega)]
 rw [if_neg (by omega)]
def TplP (L:List Int) (k:Int) (x:Tpl×Nat):Prop:=validT x.1=0∧x.1.kind=k∧x.2≤L.length
theorem DTemplate_spec (L:List Int) (hL:L.length≤1000000) (a:Nat) (ha:a≤L.length) (k:Int) (hk:1≤k∧k≤3) :
  Spec Tryz.prog 64 [.ptr 0 0,.d (.int .i64 k)] [.row (diceR L a)] (fun r h'=>∃ x,TplP L k x∧r=tAV x.1∧h'=[.row (diceR L x.2)]):=by
 have hN:=fun a ha n h1 hn=>qCs L hL a ha n h1 hn
 have hB:=fun a ha=>BytesO_spec L hL a ha 40 (by omega)
 refine qAb hT Tryz.func64 rfl rfl rfl rfl ?_;intro E hE
 refine qAo ?_
 refine ww ?_
 refine qAv (callX rfl rfl (hN a ha 40000 (by omega) (by omega)) [0] (by decide) rfl rfl rfl rfl (fun _=>rfl) (fun _=>rfl) (fun _=>rfl)) rfl ?_
 rintro ⟨frm,a1⟩ ⟨p1,p2,p3⟩
 simp only at p1 p2 p3 ⊢
 refine ww ?_
 refine qAv (callX rfl rfl (hN a1 p3 65536 (by omega) (by omega)) [0] (by decide) rfl rfl rfl rfl (fun _=>rfl) (fun _=>rfl) (fun _=>rfl)) rfl ?_
 rintro ⟨fmt,a2⟩ ⟨q1,q2,q3⟩
 simp only at q1 q2 q3 ⊢
 refine ww ?_
 refine qAv (callX rfl rfl (hN a2 q3 101 (by omega) (by omega)) [0] (by decide) rfl rfl rfl rfl (fun _=>rfl) (fun _=>rfl) (fun _=>rfl)) rfl ?_
 rintro ⟨qual,a3⟩ ⟨r1,r2,r3⟩
 simp only at r1 r2 r3 ⊢
 refine wwn ?_
 have hD:=NextD_spec L hL a3 r3 30000 (by omega) (by omega)
 have hv:=nxV_range (L:=L) (a:=a3) (n:=30000) (by omega)
 have hA:=qCq r3
 generalize nxV L a3 30000=dl at hD hv
 generalize nxA L a3=a4 at hD hA
 have hw1:IntKind.i64.wrap (frm+dl)=frm+dl:=qAe (by omega)
 refine qBd (fun i=>bif Nat.beq i 1 then [3] else bif Nat.beq i 3 then [0] else bif Nat.beq i 6 then [3] else []) (fun i=>bif Nat.beq i 3 then [0] else bif Nat.beq i 6 then [3] else []) mixed (by kernel_rfl) ?_
 refine wwg ?_
 refine qAq (v:=.d (.int .i64 dl)) (os:=[.row (diceR L a4)]) (fun k hk1 hk2=>callS1 rfl rfl hD [0] (by decide) (by show [k[0]?]=_;rw [hk2 0 List.mem_cons_self];rfl) rfl rfl rfl rfl rfl rfl) rfl ?_
 refine wwg ?_
 refine ww ?_
 refine qAv (callXv rfl rfl (hB a4 hA) [0,1] (by decide) rfl rfl rfl rfl (fun _=>rfl) (v:=fun x=>.sl 1 (encB x.1) (.right 1)) (fun _=>rfl) (fun _=>rfl)) rfl ?_
 rintro ⟨dat,a5⟩ ⟨s1,s2⟩
 simp only at s1 s2 ⊢
 have hdl:=qAj dat
 refine ww ?_
 refine qAv (callX rfl rfl (hN a5 s2 256 (by omega) (by omega)) [0] (by decide) rfl rfl rfl rfl (fun _=>rfl) (fun _=>rfl) (fun _=>rfl)) rfl ?_
 rintro ⟨x,a6⟩ ⟨t1,t2,t3⟩
 simp only at t1 t2 t3 ⊢
 have hx:=u8_of ⟨t1,t2⟩
 refine ww ?_
 refine qAd (qAi (i:=1) hT rfl rfl rfl rfl rfl rfl (by show ((encB dat).length+1)*(1+1)≤_;first | omega | (simp only [qAj,qAp,List.length_append,List.length_cons,List.length_nil];omega))) rfl ?_
 have hres:encB (dat++[UInt8.ofNat x.toNat])=encB dat++[[Dat.int .u8 (IntKind.u8.wrap x)]]:=by rw [qBq,hx];rfl
 rw [← hres]
 have hel:1≤(dat++[UInt8.ofNat x.toNat]).length∧(dat++[UInt8.ofNat x.toNat]).length≤41:=by simp;omega
 generalize dat++[UInt8.ofNat x.toNat]=da at hel
 refine ww ?_
 refine qAa rfl (fun c1=>?_) (fun c1=>?_)
 ·have c1':k=2:=by simpa using c1
  refine ww ?_
  refine qAv (callX rfl rfl (hN a6 t3 10 (by omega) (by omega)) [0] (by decide) rfl rfl rfl rfl (fun _=>rfl) (fun _=>rfl) (fun _=>rfl)) rfl ?_
  rintro ⟨y,a7⟩ ⟨u1,u2,u3⟩
  simp only at u1 u2 u3 ⊢
  have hw2:IntKind.i64.wrap (1+y)=1+y:=qAe (by omega)
  refine ww ?_
  exact rq ⟨(⟨k,1+y,frm,frm+dl,fmt,qual,da⟩,a7),⟨validT_mk (.inr (.inl ⟨c1',by simp only;omega,by simp only;omega⟩)) ⟨p1,by simp only;omega,by simp only;omega⟩ ⟨q1,by simp only;omega⟩ ⟨r1,by simp only;omega⟩ ⟨hel.1,by simp only;omega⟩,rfl,u3⟩,rfl,rfl⟩ rfl (AV.le.agg ⟨.refl _,.int hw2,.refl _,.int hw1,.refl _,.refl _,.dat,trivial⟩)
 have c1':¬ k=2:=by simpa using c1
 refine ww ?_
 refine qAa rfl (fun c2=>?_) (fun c2=>?_)
 ·have c2':k=3:=by simpa using c2
  refine ww ?_
  refine qAv (callX rfl rfl (hN a6 t3 2 (by omega) (by omega)) [0] (by decide) rfl rfl rfl rfl (fun _=>rfl) (fun _=>rfl) (fun _=>rfl)) rfl ?_
  rintro ⟨y,a7⟩ ⟨u1,u2,u3⟩
  simp only at u1 u2 u3 ⊢
  have hw2:IntKind.i64.wrap (1+y)=1+y:=qAe (by omega)
  refine ww ?_
  exact rq ⟨(⟨k,1+y,frm,frm+dl,fmt,qual,da⟩,a7),⟨validT_mk (.inr (.inr ⟨c2',by simp only;omega,by simp only;omega⟩)) ⟨p1,by simp only;omega,by simp only;omega⟩ ⟨q1,by simp only;omega⟩ ⟨r1,by simp only;omega⟩ ⟨hel.1,by simp only;omega⟩,rfl,u3⟩,rfl,rfl⟩ rfl (AV.le.agg ⟨.refl _,.int hw2,.refl _,.int hw1,.refl _,.refl _,.dat,trivial⟩)
 have c2':¬ k=3:=by simpa using c2
 refine ww ?_
 exact rq ⟨(⟨k,0,frm,frm+dl,fmt,qual,da⟩,a6),⟨validT_mk (.inl ⟨by simp only;omega,rfl⟩) ⟨p1,by simp only;omega,by simp only;omega⟩ ⟨q1,by simp only;omega⟩ ⟨r1,by simp only;omega⟩ ⟨hel.1,by simp only;omega⟩,rfl,t3⟩,rfl,rfl⟩ rfl (AV.le.agg ⟨.refl _,.refl _,.refl _,.int hw1,.refl _,.refl _,.dat,trivial⟩)
def TplsP (L:List Int) (k:Int) (x:List Tpl×Nat):Prop:=(∀ t,t∈x.1→validT t=0∧t.kind=k)∧1≤x.1.length∧x.1.length≤3∧x.2≤L.length
end Tdoc
/- Dice: a zone. -/
set_option maxHeartbeats 8000000
set_option maxRecDepth 100000
set_option linter.unusedVariables false
set_option linter.unusedSimpArgs false
namespace Tdoc
open Go Go.Proofs
def kindT:List (List UInt8):=[[80],[73,68],[86],[65,67]]
def stateT:List (List UInt8):=[[85,84,79],[68],[88,88],[65,66,67]]
def birT:List (List UInt8):=[[60,60,60,60,60,60],[56,53,60,60,60,60],[56,53,49,50,60,60],[60,60,48,49,51,49],[48,48,48,50,60,60]]
def sexT:List (List UInt8):=[[77],[70],[60]]
def BirM (s:List UInt8):Prop:=(∃ d,(0≤d∧d≤73048)∧FormatP d s)∨s∈birT
structure ZMade (z:Zon):Prop where
 fmt:1≤z.fmt∧z.fmt≤3
 kind:z.kind∈kindT
 state:z.state∈stateT
 nat:z.nat∈stateT
 sur:NameM 2 z.sur∧z.sur≠[]
 giv:NameM 3 z.giv
 num:SignM (mostN z.fmt).toNat z.num
 bir:BirM z.bir
 sex:z.sex∈sexT
 exp:∃ d,(36524≤d∧d≤73048)∧FormatP d z.exp
 opt:z.opt=[]∨(0 < roomF z∧SignM (roomF z).toNat z.opt)
 sec:z.sec=[]∨(z.fmt=1∧SignM 11 z.sec)
theorem FormatP.len {d:Int} {s:List UInt8} (h:FormatP d s):s.length=6:=by obtain ⟨x,_,rfl⟩:=h;rfl
theorem BirM.len {s:List UInt8} (h:BirM s):s.length=6:=by
 rcases h with ⟨d,_,h⟩ | h
 ·exact h.len
 ·revert s;decide
theorem mem_at {T:List (List UInt8)} {x:Int} (h1:0≤x) (h2:x < (T.length:Int)):∃ w,(T.map fun s=>[Dat.str s])[x.toNat]?=some [.str w]∧w∈T:=by
 have hl:x.toNat < T.length:=by omega
 exact ⟨T[x.toNat],by simp [hl],List.getElem_mem hl⟩
theorem ZMade.len {z:Zon} (h:ZMade z):zLen z:=by
 have m1:mostN z.fmt≤20:=by unfold mostN;split <;> (try split) <;> omega
 have m2:roomF z≤15:=by unfold roomF;split <;> (try split) <;> (try split) <;> omega
 have k1:∀ s,s∈kindT→s.length≤100:=by decide
 have k2:∀ s,s∈stateT→s.length≤100:=by decide
 have k3:∀ s,s∈sexT→s.length≤100:=by decide
 have a1:=k1 _ h.kind
 have a2:=k2 _ h.state
 have a3:=k2 _ h.nat
 have a4:=h.sur.1.2
 have a5:=h.giv.2
 have a6:=h.num.2.2
 have a7:=h.bir.len
 have a8:=k3 _ h.sex
 obtain ⟨d,_,hd⟩:=h.exp
 have a9:=hd.len
 have a10:z.opt.length≤100:=by
  rcases h.opt with h | ⟨_,h⟩
  ·rw [h];simp
  ·have:=h.2.2;omega
 have a11:z.sec.length≤100:=by
  rcases h.sec with h | ⟨_,h⟩
  ·rw [h];simp
  ·have:=h.2.2;omega
 refine ⟨?_,?_,?_,?_,?_,?_,?_,?_,?_,?_,?_⟩ <;> omega
def DZoneP (L:List Int) (x:Zon×Nat):Prop:=ZMade x.1∧x.2≤L.length
def Z0:List AV:=[.d (.int .i64 0),.d (.str []),.d (.str []),.d (.str []),.d (.str []),.d (.str []),.d (.str []),.d (.str []),.d (.str []),.d (.str []),.d (.str []),.d (.str [])]
theorem DZone_spec (L:List Int) (hL:L.length≤1000000) (a:Nat) (ha:a≤L.length) :
  Spec Tryz.prog 17 [.ptr 0 0] [.row (diceR L a)] (fun r h'=>∃ x,DZoneP L x∧r=zAV x.1∧h'=[.row (diceR L x.2)]):=by
 have hN:=fun a ha n h1 hn=>qCs L hL a ha n h1 hn
 have hO:=fun a ha n h1 hn=>One_spec L hL a ha n h1 hn
 have hNm:=fun a ha w hw=>DName_spec L hL a ha w hw
 have hSg:=fun a ha n h1 hn=>DSigns_spec L hL a ha n h1 hn
 have hDy:=fun a ha=>DDay_spec L hL a ha
 refine qAb hT Tryz.func17 rfl rfl rfl rfl ?_;intro E hE
 refine ww ?_
 refine qAv (callX rfl rfl (hN a ha 3 (by omega) (by omega)) [0] (by decide) rfl rfl rfl rfl (fun _=>rfl) (fun _=>rfl) (fun _=>rfl)) rfl ?_
 rintro ⟨f,a1⟩ ⟨p1,p2,p3⟩
 simp only at p1 p2 p3 ⊢
 have hwf:IntKind.i64.wrap (1+f)=1+f:=qAe (by omega)
 refine ww ?_
 refine qAv (callX rfl rfl (hN a1 p3 4 (by omega) (by omega)) [0] (by decide) rfl rfl rfl rfl (fun _=>rfl) (fun _=>rfl) (fun _=>rfl)) rfl ?_
 rintro ⟨k,a2⟩ ⟨q1,q2,q3⟩
 simp only at q1 q2 q3 ⊢
 generalize IntKind.i64.wrap (1+f)=fm at hwf ⊢
 have hfm:1≤fm∧fm≤3:=by omega
 clear hwf p1 p2
 obtain ⟨kind,kat,kme⟩:=mem_at (T:=kindT) q1 q2
 refine ww ?_
 refine wwi kat ?_
 refine ww ?_
 refine qAv (callX rfl rfl (hN a2 q3 4 (by omega) (by omega)) [0] (by decide) rfl rfl rfl rfl (fun _=>rfl) (fun _=>rfl) (fun _=>rfl)) rfl ?_
 rintro ⟨s,a3⟩ ⟨r1,r2,r3⟩
 simp only at r1 r2 r3 ⊢
 obtain ⟨state,sat,sme⟩:=mem_at (T:=stateT) r1 r2
 refine ww ?_
 refine wwi sat ?_
 refine ww ?_
 refine qAv (callX rfl rfl (hN a3 r3 4 (by omega) (by omega)) [0] (by decide) rfl rfl rfl rfl (fun _=>rfl) (fun _=>rfl) (fun _=>rfl)) rfl ?_
 rintro ⟨n,a4⟩ ⟨s1,s2,s3⟩
 simp only at s1 s2 s3 ⊢
 obtain ⟨nat,nat_at,nme⟩:=mem_at (T:=stateT) s1 s2
 refine ww ?_
 refine wwi nat_at ?_
 refine ww ?_
 refine qAv (callX rfl rfl (hNm a4 s3 2 (by omega)) [0] (by decide) rfl rfl rfl rfl (fun _=>rfl) (fun _=>rfl) (fun _=>rfl)) rfl ?_
 rintro ⟨sur0,a5⟩ ⟨t1,t2⟩
 simp only at t1 t2 ⊢
 refine ww ?_
 refine qAv (callX rfl rfl (hNm a5 t2 3 (by omega)) [0] (by decide) rfl rfl rfl rfl (fun _=>rfl) (fun _=>rfl) (fun _=>rfl)) rfl ?_
 rintro ⟨giv,a6⟩ ⟨u1,u2⟩
 simp only at u1 u2 ⊢
 refine wws ?_
 refine qAs (ι:=List UInt8) (fun sur=>[(0,.ptr 0 0),(2,.ptr 1 0),(3,.ptr 2 0)])
  (fun sur=>[.row (diceR L a6),.row Z0,.row [.d (.int .i64 fm),.d (.str kind),.d (.str state),.d (.str sur),.d (.str giv),.d (.str []),.d (.str nat),.d (.str []),.d (.str []),.d (.str []),.d (.str []),.d (.str [])]]) (fun sur=>NameM 2 sur∧sur≠[]) ?_ ?_
 ·refine ww ?_
  refine qAa rfl (fun c1=>?_) (fun c1=>?_)
  ·refine ww ?_
   exact ⟨[79,75],⟨⟨rfl,by simp⟩,by simp⟩,⟨.refl _,.refl _,.refl _,trivial⟩,HLe.refl _⟩
  ·have c1':¬ sur0=[]:=by simpa using c1
   refine ww ?_
   exact ⟨sur0,⟨t1,c1'⟩,⟨.refl _,.refl _,.refl _,trivial⟩,HLe.refl _⟩
 rintro sur ⟨x1,x2⟩
 clear t1
 refine wwe ?_
 refine qAt (qAk ?_)
 refine wws ?_
 refine qAs (ι:=Nat×Nat) (fun x=>[(0,.ptr 0 0),(2,.ptr 1 0),(3,.ptr 2 0),(4,.d (.int .i64 (x.1:Int)))]) (fun x=>[.row (diceR L x.2),.row Z0,.row [.d (.int .i64 fm),.d (.str kind),.d (.str state),.d (.str sur),.d (.str giv),.d (.str []),.d (.str nat),.d (.str []),.d (.str []),.d (.str []),.d (.str []),.d (.str [])]]) (fun x=>(x.1=9∨(x.1=14∧fm=2))∧x.2≤L.length) ?_ ?_
 ·refine ww ?_
  refine AWk_gopX (.d (.bool false)) rfl rfl rfl (fun hg=>⟨by first | exact True.intro | exact ⟨hg,True.intro⟩ | exact ⟨hg,hg,True.intro⟩,callX rfl rfl (hO a6 u2 3 (by omega) (by omega)) [0] (by decide) rfl rfl rfl rfl (fun _=>rfl) (fun _=>rfl) (fun _=>rfl)⟩) ?_ ?_
  ·rintro hg ⟨fl,b⟩ y1
   simp only at y1 ⊢
   have hg':fm=2:=by simp [gval] at hg;omega
   refine ww ?_
   refine qAa rfl (fun c2=>?_) (fun c2=>?_)
   ·refine ww ?_
    exact ⟨(14,b),⟨.inr ⟨rfl,hg'⟩,y1⟩,⟨.refl _,.refl _,.refl _,.refl _,trivial⟩,HLe.refl _⟩
   ·refine ww ?_
    exact ⟨(9,b),⟨.inl rfl,y1⟩,⟨.refl _,.refl _,.refl _,.refl _,trivial⟩,HLe.refl _⟩
  ·intro hg
   refine qCp hT rfl rfl (by intro hh;simp [gval] at hg;simp at hh;omega) ?_
   refine ww ?_
   refine qAa rfl (fun c2=>?_) (fun c2=>?_)
   ·exact absurd c2 (by simp)
   ·refine ww ?_
    exact ⟨(9,a6),⟨.inl rfl,u2⟩,⟨.refl _,.refl _,.refl _,.refl _,trivial⟩,HLe.refl _⟩
 rintro ⟨m1,a7⟩ ⟨v1,v2⟩
 simp only at v1 v2 ⊢
 refine qAs (ι:=Nat×Nat) (fun x=>[(0,.ptr 0 0),(2,.ptr 1 0),(3,.ptr 2 0),(4,.d (.int .i64 (x.1:Int)))]) (fun x=>[.row (diceR L x.2),.row Z0,.row [.d (.int .i64 fm),.d (.str kind),.d (.str state),.d (.str sur),.d (.str giv),.d (.str []),.d (.str nat),.d (.str []),.d (.str []),.d (.str []),.d (.str []),.d (.str [])]]) (fun x=>(9≤x.1∧x.1≤(mostN fm).toNat)∧x.2≤L.length) ?_ ?_
 ·have hm1:9≤m1∧m1≤(mostN fm).toNat:=by unfold mostN;split <;> (try split) <;> omega
  refine ww ?_
  refine AWk_gopX (.d (.bool false)) rfl rfl rfl (fun hg=>⟨by first | exact True.intro | exact ⟨hg,True.intro⟩ | exact ⟨hg,hg,True.intro⟩,callX rfl rfl (hO a7 v2 3 (by omega) (by omega)) [0] (by decide) rfl rfl rfl rfl (fun _=>rfl) (fun _=>rfl) (fun _=>rfl)⟩) ?_ ?_
  ·rintro hg ⟨fl,b⟩ y1
   simp only at y1 ⊢
   have hg':fm=1:=by simp [gval] at hg;omega
   refine ww ?_
   refine qAa rfl (fun c2=>?_) (fun c2=>?_)
   ·refine ww ?_
    exact ⟨(20,b),⟨⟨by simp,by unfold mostN;rw [if_pos hg'];simp⟩,y1⟩,⟨.refl _,.refl _,.refl _,.refl _,trivial⟩,HLe.refl _⟩
   ·refine ww ?_
    exact ⟨(m1,b),⟨hm1,y1⟩,⟨.refl _,.refl _,.refl _,.refl _,trivial⟩,HLe.refl _⟩
  ·intro hg
   refine qCp hT rfl rfl (by intro hh;simp [gval] at hg;simp at hh;omega) ?_
   refine ww ?_
   refine qAa rfl (fun c2=>?_) (fun c2=>?_)
   ·exact absurd c2 (by simp)
   ·refine ww ?_
    exact ⟨(m1,a7),⟨hm1,v2⟩,⟨.refl _,.refl _,.refl _,.refl _,trivial⟩,HLe.refl _⟩
 rintro ⟨m,a8⟩ ⟨w1,w2⟩
 simp only at w1 w2 ⊢
 clear v1 v2
 have hmost:(mostN fm).toNat≤20:=by unfold mostN;split <;> (try split) <;> omega
 refine ww ?_
 refine qAv (callX rfl rfl (hSg a8 w2 m (by omega) (by omega)) [0] (by decide) rfl rfl rfl rfl (fun _=>rfl) (fun _=>rfl) (fun _=>rfl)) rfl ?_
 rintro ⟨num,a9⟩ ⟨y1,y2⟩
 simp only at y1 y2 ⊢
 have hnl:=y1.2.2
 have hnum:SignM (mostN fm).toNat num:=⟨y1.1,y1.2.1,by omega⟩
 refine ww ?_
 refine qAv (callX rfl rfl (hDy a9 y2) [0] (by decide) rfl rfl rfl rfl (fun _=>rfl) (fun _=>rfl) (fun _=>rfl)) rfl ?_
 rintro ⟨day,a10⟩ ⟨z1,z2,z3⟩
 simp only at z1 z2 z3 ⊢
 have hF:=FormatD_spec day ⟨z1,by omega⟩
 refine ww ?_
 refine wwx hF ?_
 rintro bir0 hb0
 refine wws ?_
 refine qAt (qAk ?_)
 refine wws ?_
 refine qAs (ι:=List UInt8×Nat) (fun x=>[(0,.ptr 0 0),(2,.ptr 1 0),(3,.ptr 2 0)])
  (fun x=>[.row (diceR L x.2),.row Z0,.row [.d (.int .i64 fm),.d (.str kind),.d (.str state),.d (.str sur),.d (.str giv),.d (.str num),.d (.str nat),.d (.str x.1),.d (.str []),.d (.str []),.d (.str []),.d (.str [])]]) (fun x=>BirM x.1∧x.2≤L.length) ?_ ?_
 ·refine ww ?_
  refine qAv (callX rfl rfl (hO a10 z3 5 (by omega) (by omega)) [0] (by decide) rfl rfl rfl rfl (fun _=>rfl) (fun _=>rfl) (fun _=>rfl)) rfl ?_
  rintro ⟨fl,b⟩ e1
  simp only at e1 ⊢
  refine ww ?_
  refine qAa rfl (fun c2=>?_) (fun c2=>?_)
  ·refine ww ?_
   refine qAv (callX rfl rfl (hN b e1 5 (by omega) (by omega)) [0] (by decide) rfl rfl rfl rfl (fun _=>rfl) (fun _=>rfl) (fun _=>rfl)) rfl ?_
   rintro ⟨j,b2⟩ ⟨e2,e3,e4⟩
   simp only at e2 e3 e4 ⊢
   obtain ⟨bir,bat,bme⟩:=mem_at (T:=birT) e2 e3
   refine ww ?_
   refine wwi bat ?_
   refine ww ?_
   exact ⟨(bir,b2),⟨.inr bme,e4⟩,⟨.refl _,.refl _,.refl _,trivial⟩,HLe.refl _⟩
  ·refine ww ?_
   exact ⟨(bir0,b),⟨.inl ⟨day,⟨z1,by omega⟩,hb0⟩,e1⟩,⟨.refl _,.refl _,.refl _,trivial⟩,HLe.refl _⟩
 rintro ⟨bir,a11⟩ ⟨b1,b2⟩
 simp only at b1 b2 ⊢
 clear hb0
 refine ww ?_
 refine qAv (callX rfl rfl (hN a11 b2 3 (by omega) (by omega)) [0] (by decide) rfl rfl rfl rfl (fun _=>rfl) (fun _=>rfl) (fun _=>rfl)) rfl ?_
 rintro ⟨j,a12⟩ ⟨e2,e3,e4⟩
 simp only at e2 e3 e4 ⊢
 obtain ⟨sex,sxat,sxme⟩:=mem_at (T:=sexT) e2 e3
 refine ww ?_
 refine wwi sxat ?_
 refine ww ?_
 refine qAv (callX rfl rfl (hN a12 e4 36000 (by omega) (by omega)) [0] (by decide) rfl rfl rfl rfl (fun _=>rfl) (fun _=>rfl) (fun _=>rfl)) rfl ?_
 rintro ⟨dd,a13⟩ ⟨i1,i2,i3⟩
 simp only at i1 i2 i3 ⊢
 have hwd:IntKind.i64.wrap (36524+dd)=36524+dd:=qAe (by omega)
 have hF2:=FormatD_spec (36524+dd) ⟨by omega,by omega⟩
 rw [← hwd] at hF2
 refine ww ?_
 refine wwx hF2 ?_
 rintro exp hex
 rw [hwd] at hex
 refine ww ?_
 have har:([.d (.int .i64 0),.d (.int .i64 15),.d (.int .i64 7),.d (.int .i64 14)]:List AV)[fm.toNat]?=some (.d (.int .i64 (if fm=1 then 15 else if fm=2 then 7 else 14))):=by
  have:fm=1∨fm=2∨fm=3:=by omega
  rcases this with rfl | rfl | rfl <;> rfl
 have hm0:(if fm=1 then 15 else if fm=2 then 7 else 14:Int)≤15:=by split <;> (try split) <;> omega
 have hm1:7≤(if fm=1 then 15 else if fm=2 then 7 else 14:Int):=by split <;> (try split) <;> omega
 generalize hrd:(if fm=1 then 15 else if fm=2 then 7 else 14:Int)=w0 at har hm0 hm1
 refine qAd (qAc (arrIdx_ok hT rfl rfl rfl rfl (by show 0≤fm∧fm < 4;omega) har)) rfl ?_
 refine wws ?_
 generalize hroom:w0-(if num.length > 9 then (num.length:Int)-9+2 else 0)=room
 have hrm : -20≤room∧room≤15:=by rw [← hroom];split <;> omega
 refine qAs (ι:=Unit) (fun _=>[(0,.ptr 0 0),(2,.ptr 1 0),(3,.ptr 2 0),(7,.d (.int .i64 room))])
  (fun x=>[.row (diceR L a13),.row Z0,.row [.d (.int .i64 fm),.d (.str kind),.d (.str state),.d (.str sur),.d (.str giv),.d (.str num),.d (.str nat),.d (.str bir),.d (.str sex),.d (.str exp),.d (.str []),.d (.str [])]]) (fun _=>True) ?_ (fun _ _=>?_)
 ·refine ww ?_
  refine qAa rfl (fun c2=>?_) (fun c2=>?_)
  ·have c2':num.length > 9:=by simp at c2;omega
   rw [if_pos c2'] at hroom
   have hwr:IntKind.i64.wrap (w0-IntKind.i64.wrap ((num.length:Int)-7))=room:=by rw [qAe (n:=(num.length:Int)-7) (by omega),qAe (by omega)];omega
   refine ww ?_
   exact ⟨(),trivial,⟨.refl _,.refl _,.refl _,.int hwr,trivial⟩,HLe.refl _⟩
  ·have c2':¬ num.length > 9:=by simp at c2;omega
   rw [if_neg c2'] at hroom
   have hwr:w0=room:=by omega
   refine ww ?_
   exact ⟨(),trivial,⟨.refl _,.refl _,.refl _,.int hwr,trivial⟩,HLe.refl _⟩
 refine qAs (ι:=List UInt8×Nat) (fun x=>[(0,.ptr 0 0),(2,.ptr 1 0),(3,.ptr 2 0)])
  (fun x=>[.row (diceR L x.2),.row Z0,.row [.d (.int .i64 fm),.d (.str kind),.d (.str state),.d (.str sur),.d (.str giv),.d (.str num),.d (.str nat),.d (.str bir),.d (.str sex),.d (.str exp),.d (.str x.1),.d (.str [])]]) (fun x=>(x.1=[]∨(0 < room∧SignM room.toNat x.1))∧x.2≤L.length) ?_ ?_
 ·refine ww ?_
  refine AWk_gopX (.d (.bool false)) rfl rfl rfl (fun hg=>⟨by first | exact True.intro | exact ⟨hg,True.intro⟩ | exact ⟨hg,hg,True.intro⟩,callX rfl rfl (hO a13 i3 2 (by omega) (by omega)) [0] (by decide) rfl rfl rfl rfl (fun _=>rfl) (fun _=>rfl) (fun _=>rfl)⟩) ?_ ?_
  ·rintro hg ⟨fl,b⟩ e1
   simp only at e1 ⊢
   have hg':0 < room:=by simp [gval] at hg;omega
   refine ww ?_
   refine qAa rfl (fun c2=>?_) (fun c2=>?_)
   ·have hsg:=hSg b e1 room.toNat (by omega) (by omega)
    rw [Int.toNat_of_nonneg (by omega)] at hsg
    refine ww ?_
    refine qAv (callX rfl rfl (hsg) [0] (by decide) rfl rfl rfl rfl (fun _=>rfl) (fun _=>rfl) (fun _=>rfl)) rfl ?_
    rintro ⟨opt,b2⟩ ⟨e2,e3⟩
    simp only at e2 e3 ⊢
    refine ww ?_
    exact ⟨(opt,b2),⟨.inr ⟨hg',e2⟩,e3⟩,⟨.refl _,.refl _,.refl _,trivial⟩,HLe.refl _⟩
   ·refine ww ?_
    exact ⟨([],b),⟨.inl rfl,e1⟩,⟨.refl _,.refl _,.refl _,trivial⟩,HLe.refl _⟩
  ·intro hg
   refine qCp hT rfl rfl (by intro hh;simp [gval] at hg;simp at hh;omega) ?_
   refine ww ?_
   refine qAa rfl (fun c2=>?_) (fun c2=>?_)
   ·exact absurd c2 (by simp)
   ·refine ww ?_
    exact ⟨([],a13),⟨.inl rfl,i3⟩,⟨.refl _,.refl _,.refl _,trivial⟩,HLe.refl _⟩
 rintro ⟨opt,a14⟩ ⟨j1,j2⟩
 simp only at j1 j2 ⊢
 refine qAs (ι:=List UInt8×Nat) (fun x=>[(0,.ptr 0 0),(2,.ptr 1 0),(3,.ptr 2 0)])
  (fun x=>[.row (diceR L x.2),.row Z0,.row [.d (.int .i64 fm),.d (.str kind),.d (.str state),.d (.str sur),.d (.str giv),.d (.str num),.d (.str nat),.d (.str bir),.d (.str sex),.d (.str exp),.d (.str opt),.d (.str x.1)]]) (fun x=>(x.1=[]∨(fm=1∧SignM 11 x.1))∧x.2≤L.length) ?_ ?_
 ·refine ww ?_
  refine AWk_gopX (.d (.bool false)) rfl rfl rfl (fun hg=>⟨by first | exact True.intro | exact ⟨hg,True.intro⟩ | exact ⟨hg,hg,True.intro⟩,callX rfl rfl (hO a14 j2 3 (by omega) (by omega)) [0] (by decide) rfl rfl rfl rfl (fun _=>rfl) (fun _=>rfl) (fun _=>rfl)⟩) ?_ ?_
  ·rintro hg ⟨fl,b⟩ e1
   simp only at e1 ⊢
   have hg':fm=1:=by simp [gval] at hg;omega
   refine ww ?_
   refine qAa rfl (fun c2=>?_) (fun c2=>?_)
   ·refine ww ?_
    refine qAv (callX rfl rfl (hSg b e1 11 (by omega) (by omega)) [0] (by decide) rfl rfl rfl rfl (fun _=>rfl) (fun _=>rfl) (fun _=>rfl)) rfl ?_
    rintro ⟨sec,b2⟩ ⟨e2,e3⟩
    simp only at e2 e3 ⊢
    refine ww ?_
    exact ⟨(sec,b2),⟨.inr ⟨hg',e2⟩,e3⟩,⟨.refl _,.refl _,.refl _,trivial⟩,HLe.refl _⟩
   ·refine ww ?_
    exact ⟨([],b),⟨.inl rfl,e1⟩,⟨.refl _,.refl _,.refl _,trivial⟩,HLe.refl _⟩
  ·intro hg
   refine qCp hT rfl rfl (by intro hh;simp [gval] at hg;simp at hh;omega) ?_
   refine ww ?_
   refine qAa rfl (fun c2=>?_) (fun c2=>?_)
   ·exact absurd c2 (by simp)
   ·refine ww ?_
    exact ⟨([],a14),⟨.inl rfl,j2⟩,⟨.refl _,.refl _,.refl _,trivial⟩,HLe.refl _⟩
 rintro ⟨sec,a15⟩ ⟨k1,k2⟩
 simp only at k1 k2 ⊢
 have hrf:roomF ⟨fm,kind,state,sur,giv,num,nat,bir,sex,exp,opt,sec⟩=room:=by unfold roomF;rw [← hroom,← hrd]
 refine ww ?_
 exact rq ⟨(⟨fm,kind,state,sur,giv,num,nat,bir,sex,exp,opt,sec⟩,a15),⟨⟨hfm,kme,sme,nme,⟨x1,x2⟩,u1,hnum,b1,sxme,⟨_,⟨by omega,by omega⟩,hex⟩,by rw [hrf];exact j1,k1⟩,k2⟩,rfl,rfl⟩ rfl (.refl _)
end Tdoc
/- Dice: odd templates and zones. -/
set_option maxHeartbeats 8000000
set_option maxRecDepth 100000
set_option linter.unusedVariables false
set_option linter.unusedSimpArgs false
namespace Tdoc
open Go Go.Proofs
theorem qCa (L:List Int) (hL:L.length≤1000000) (a:Nat) (ha:a≤L.length):∃ (x:Int→Int) (b:Nat),nxV L a=x∧nxA L a=b∧b≤L.length∧(∀ n,1≤n→0≤x n∧x n < n) ∧
  ∀ n,1≤n→n≤4611686018427387904→Spec Tryz.prog 12 [.ptr 0 0,.d (.int .i64 n)] [.row (diceR L a)] (fun r h'=>r=.d (.int .i64 (x n))∧h'=[.row (diceR L b)]) :=
 ⟨_,_,rfl,rfl,qCq ha,fun n h=>nxV_range h,fun n h1 h2=>NextD_spec L hL a ha n h1 h2⟩
def pkS (T:List (List UInt8)) (x:Int):List UInt8:=T.getD x.toNat []
def pkI (T:List Int) (x:Int):Int:=T.getD x.toNat 0
theorem pkS_len {T:List (List UInt8)} (hT:(T.all fun s=>decide (s.length≤100))=true) (x:Int):(pkS T x).length≤10000:=by
 unfold pkS
 rcases Nat.lt_or_ge x.toNat T.length with h | h
 ·have:=List.all_eq_true.1 hT _ (List.getElem_mem h)
  simp only [decide_eq_true_eq] at this
  simp only [List.getD_eq_getElem?_getD,List.getElem?_eq_getElem h,Option.getD_some]
  omega
 ·simp [List.getElem?_eq_none h]
theorem pkS_at {T:List (List UInt8)} {x:Int} (h:0≤x∧x < (T.length:Int)):(T.map fun s=>[Dat.str s])[x.toNat]?=some [.str (pkS T x)]:=by
 have hl:x.toNat < T.length:=by omega
 simp [pkS,hl]
theorem pkI_at {T:List Int} {x:Int} (h:0≤x∧x < (T.length:Int)):(T.map fun s=>[Dat.int .i64 s])[x.toNat]?=some [.int .i64 (pkI T x)]:=by
 have hl:x.toNat < T.length:=by omega
 simp [pkI,hl]
theorem pkI_mem {T:List Int} {x:Int} (h:0≤x∧x < (T.length:Int)):pkI T x∈T:=by
 have hl:x.toNat < T.length:=by omega
 have:pkI T x=T[x.toNat]:=by simp [pkI,hl]
 rw [this];exact List.getElem_mem hl
theorem encB_zeros (n:Nat):List.replicate n [Dat.int .u8 0]=encB (List.replicate n 0):=by simp [encB]
def oddT (m:Int) (x y:Int→Int) (t:Tpl):Tpl :=
 if m=0 then ⟨x 5,t.part,t.frm,t.til,t.fmt,t.qual,t.data⟩
 else if m=1 then ⟨t.kind,pkI [-1,0,1,2,3,10,11,256] (x 8),t.frm,t.til,t.fmt,t.qual,t.data⟩
 else if m=2 then ⟨t.kind,t.part,pkI [-1,0,73048,73049,IntKind.i64.wrap (t.til+1)] (x 5),t.til,t.fmt,t.qual,t.data⟩
 else if m=3 then ⟨t.kind,t.part,t.frm,pkI [-1,73048,73049] (x 3),t.fmt,t.qual,t.data⟩
 else if m=4 then ⟨t.kind,t.part,t.frm,t.til,pkI [-1,65535,65536] (x 3),pkI [0,100,101,-1] (y 4),t.data⟩
 else ⟨t.kind,t.part,t.frm,t.til,t.fmt,t.qual,List.replicate (pkI [0,1,1024,1025] (x 4)).toNat 0⟩
def oddTF (L:List Int) (a:Nat) (t:Tpl):Tpl×Nat:=(oddT (nxV L a 6) (nxV L (nxA L a)) (nxV L (nxA L (nxA L a))) t,if nxV L a 6=4 then nxA L (nxA L (nxA L a)) else nxA L (nxA L a))
theorem oddTF_le {L:List Int} {a:Nat} (ha:a≤L.length) (t:Tpl):(oddTF L a t).2≤L.length:=by
 unfold oddTF;simp only;split
 ·exact qCq (qCq (qCq ha))
 ·exact qCq (qCq ha)
theorem OddTemplate_spec (L:List Int) (hL:L.length≤1000000) (a:Nat) (ha:a≤L.length) (t:Tpl) :
  Spec Tryz.prog 23 [.ptr 0 0,tAV t] [.row (diceR L a)] (fun r h'=>r=tAV (oddTF L a t).1∧h'=[.row (diceR L (oddTF L a t).2)]):=by
 obtain ⟨m',a1,e1,e2,g1,hm',hN⟩:=qCa L hL a ha
 obtain ⟨x,a2,e3,e4,g2,hx,hN2⟩:=qCa L hL a1 g1
 obtain ⟨y,a3,e5,e6,g3,hy,hN3⟩:=qCa L hL a2 g2
 unfold oddTF
 rw [e1,e2,e3,e4,e5,e6]
 have hN:=hN 6 (by omega) (by omega)
 have hm:=hm' 6 (by omega)
 generalize m' 6=m at hN hm ⊢
 clear e1 e2 e3 e4 e5 e6 hm'
 obtain ⟨kind,part,frm,til,fmt,qual,dat⟩:=t
 unfold tAV tCells
 simp only
 refine qAb hT Tryz.func23 rfl rfl rfl rfl ?_;intro E hE
 refine ww ?_
 refine qAd (callS1 rfl rfl (hN) [0] (by decide) rfl rfl rfl rfl rfl rfl rfl) rfl ?_
 refine ww ?_
 refine qAa rfl (fun c0=>?_) (fun c0=>?_)
 ·have c0':m=0:=by simpa using c0
  refine ww ?_
  refine qAd (callS1 rfl rfl (hN2 5 (by omega) (by omega)) [0] (by decide) rfl rfl rfl rfl rfl rfl rfl) rfl ?_
  refine ww ?_
  have hf:oddT m x y ⟨kind,part,frm,til,fmt,qual,dat⟩=⟨x 5,part,frm,til,fmt,qual,dat⟩:=by unfold oddT;simp only [if_pos c0']
  rw [hf]
  rw [if_neg (show ¬ m=4 by omega)]
  exact rq ⟨rfl,rfl⟩ rfl (.refl _)
 have c0':¬ m=0:=by simpa using c0
 refine ww ?_
 refine qAa rfl (fun c1=>?_) (fun c1=>?_)
 ·have c1':m=1:=by simpa using c1
  refine ww ?_
  have hxn:=hx 8 (by omega)
  have hat:=pkI_at (T:=[-1,0,1,2,3,10,11,256]) hxn
  refine qAd (callS1 rfl rfl (hN2 8 (by omega) (by omega)) [0] (by decide) rfl rfl rfl rfl rfl rfl rfl) rfl ?_
  refine ww ?_
  refine wwi hat ?_
  refine ww ?_
  have hf:oddT m x y ⟨kind,part,frm,til,fmt,qual,dat⟩=⟨kind,pkI [-1,0,1,2,3,10,11,256] (x 8),frm,til,fmt,qual,dat⟩:=by unfold oddT;simp only [if_neg c0',if_pos c1']
  rw [hf]
  rw [if_neg (show ¬ m=4 by omega)]
  exact rq ⟨rfl,rfl⟩ rfl (.refl _)
 have c1':¬ m=1:=by simpa using c1
 refine ww ?_
 refine qAa rfl (fun c2=>?_) (fun c2=>?_)
 ·have c2':m=2:=by simpa using c2
  have hxn:=hx 5 (by omega)
  have hat:=pkI_at (T:=[-1,0,73048,73049,IntKind.i64.wrap (til+1)]) hxn
  refine wwn ?_
  refine AW_drawT (fun i=>bif Nat.beq i 1 then [1] else bif Nat.beq i 5 then [0] else bif Nat.beq i 9 then [1] else []) (fun i=>bif Nat.beq i 5 then [0] else bif Nat.beq i 9 then [1] else []) mixed (by kernel_rfl) ?_
  refine wwg ?_
  refine qAq (os:=[]) (fun k hk1 hk2=>qBu hT rfl rfl) rfl ?_
  refine wwg ?_
  refine qAq (v:=.d (.int .i64 (x 5))) (os:=[.row (diceR L a2)]) (fun k hk1 hk2=>callS1 rfl rfl (hN2 5 (by omega) (by omega)) [0] (by decide) (by show [k[0]?]=_;rw [hk2 0 List.mem_cons_self];rfl) rfl rfl rfl rfl rfl rfl) rfl ?_
  refine wwg ?_
  refine qBw (qAh hT rfl rfl rfl rfl (hx 5 (by omega)).1 hat) rfl rfl ?_
  refine wwg ?_
  refine ww ?_
  have hf:oddT m x y ⟨kind,part,frm,til,fmt,qual,dat⟩=⟨kind,part,pkI [-1,0,73048,73049,IntKind.i64.wrap (til+1)] (x 5),til,fmt,qual,dat⟩:=by unfold oddT;simp only [if_neg c0',if_neg c1',if_pos c2']
  rw [hf]
  rw [if_neg (show ¬ m=4 by omega)]
  exact rq ⟨rfl,rfl⟩ rfl (.refl _)
 have c2':¬ m=2:=by simpa using c2
 refine ww ?_
 refine qAa rfl (fun c3=>?_) (fun c3=>?_)
 ·have c3':m=3:=by simpa using c3
  refine ww ?_
  have hxn:=hx 3 (by omega)
  have hat:=pkI_at (T:=[-1,73048,73049]) hxn
  refine qAd (callS1 rfl rfl (hN2 3 (by omega) (by omega)) [0] (by decide) rfl rfl rfl rfl rfl rfl rfl) rfl ?_
  refine ww ?_
  refine wwi hat ?_
  refine ww ?_
  have hf:oddT m x y ⟨kind,part,frm,til,fmt,qual,dat⟩=⟨kind,part,frm,pkI [-1,73048,73049] (x 3),fmt,qual,dat⟩:=by unfold oddT;simp only [if_neg c0',if_neg c1',if_neg c2',if_pos c3']
  rw [hf]
  rw [if_neg (show ¬ m=4 by omega)]
  exact rq ⟨rfl,rfl⟩ rfl (.refl _)
 have c3':¬ m=3:=by simpa using c3
 refine ww ?_
 refine qAa rfl (fun c4=>?_) (fun c4=>?_)
 ·have c4':m=4:=by simpa using c4
  have hxn:=hx 3 (by omega)
  have hat:=pkI_at (T:=[-1,65535,65536]) hxn
  have hat2:=pkI_at (T:=[0,100,101,-1]) (hy 4 (by omega))
  refine wwn ?_
  refine AW_drawT (fun i=>bif Nat.beq i 2 then [0] else bif Nat.beq i 7 then [0] else bif Nat.beq i 11 then [1] else bif Nat.beq i 13 then [1] else []) (fun i=>bif Nat.beq i 2 then [0] else bif Nat.beq i 7 then [0] else bif Nat.beq i 11 then [1] else bif Nat.beq i 13 then [1] else []) mixed (by kernel_rfl) ?_
  refine wwg ?_
  refine qAq (os:=[]) (fun k hk1 hk2=>qBu hT rfl rfl) rfl ?_
  refine wwg ?_
  refine qAq (v:=.d (.int .i64 (x 3))) (os:=[.row (diceR L a2)]) (fun k hk1 hk2=>callS1 rfl rfl (hN2 3 (by omega) (by omega)) [0] (by decide) (by show [k[0]?]=_;rw [hk2 0 List.mem_cons_self];rfl) rfl rfl rfl rfl rfl rfl) rfl ?_
  refine wwg ?_
  refine qBw (qAh hT rfl rfl rfl rfl (hx 3 (by omega)).1 hat) rfl rfl ?_
  refine wwg ?_
  refine qAq (os:=[]) (fun k hk1 hk2=>qBu hT rfl rfl) rfl ?_
  refine wwg ?_
  refine qAq (v:=.d (.int .i64 (y 4))) (os:=[.row (diceR L a3)]) (fun k hk1 hk2=>callS1 rfl rfl (hN3 4 (by omega) (by omega)) [0] (by decide) (by show [k[0]?]=_;rw [hk2 0 List.mem_cons_self];rfl) rfl rfl rfl rfl rfl rfl) rfl ?_
  refine wwg ?_
  refine qBw (qAh hT rfl rfl rfl rfl (hy 4 (by omega)).1 hat2) rfl rfl ?_
  refine wwg ?_
  refine ww ?_
  have hf:oddT m x y ⟨kind,part,frm,til,fmt,qual,dat⟩=⟨kind,part,frm,til,pkI [-1,65535,65536] (x 3),pkI [0,100,101,-1] (y 4),dat⟩:=by unfold oddT;simp only [if_neg c0',if_neg c1',if_neg c2',if_neg c3',if_pos c4']
  rw [hf]
  rw [if_pos c4']
  exact rq ⟨rfl,rfl⟩ rfl (.refl _)
 have c4':¬ m=4:=by simpa using c4
 refine ww ?_
 have hxn:=hx 4 (by omega)
 have hat:=pkI_at (T:=[0,1,1024,1025]) hxn
 have hv:=pkI_mem (T:=[0,1,1024,1025]) (hx 4 (by omega))
 refine qAd (callS1 rfl rfl (hN2 4 (by omega) (by omega)) [0] (by decide) rfl rfl rfl rfl rfl rfl rfl) rfl ?_
 refine ww ?_
 refine wwi hat ?_
 obtain ⟨n,hn1,hn⟩:∃ n:Nat,pkI [0,1,1024,1025] (x 4)=(n:Int)∧n≤1025:=⟨(pkI [0,1,1024,1025] (x 4)).toNat,by simp at hv;omega,by simp at hv;omega⟩
 rw [hn1]
 refine ww ?_
 refine qAd (makeDat_ok (n:=n) hT rfl rfl rfl rfl (by show 1*n≤_;omega) (by omega)) rfl ?_
 rw [encB_zeros]
 refine ww ?_
 have hf:oddT m x y ⟨kind,part,frm,til,fmt,qual,dat⟩=⟨kind,part,frm,til,fmt,qual,List.replicate (pkI [0,1,1024,1025] (x 4)).toNat 0⟩:=by unfold oddT;simp only [if_neg c0',if_neg c1',if_neg c2',if_neg c3',if_neg c4']
 rw [show (pkI [0,1,1024,1025] (x 4)).toNat=n by rw [hn1];simp] at hf
 rw [hf]
 rw [if_neg (show ¬ m=4 by omega)]
 exact rq ⟨rfl,rfl⟩ rfl (.refl _)
def oddZ (m:Int) (x:Int→Int) (t:Zon):Zon :=
 if m=0 then ⟨IntKind.i64.wrap (x 6-1),t.kind,t.state,t.sur,t.giv,t.num,t.nat,t.bir,t.sex,t.exp,t.opt,t.sec⟩
 else if m=1 then ⟨t.fmt,pkS [[],[112],[80,80,80],[80,60],[49]] (x 5),t.state,t.sur,t.giv,t.num,t.nat,t.bir,t.sex,t.exp,t.opt,t.sec⟩
 else if m=2 then ⟨t.fmt,t.kind,pkS [[],[85,84,79,80],[85,49],[60,60,60]] (x 4),t.sur,t.giv,t.num,[85,84,79],t.bir,t.sex,t.exp,t.opt,t.sec⟩
 else if m=3 then ⟨t.fmt,t.kind,t.state,pkS [[],[32,65],[65,32,32,66],[97],[65,60,66],[65,32]] (x 6),t.giv,t.num,t.nat,t.bir,t.sex,t.exp,t.opt,t.sec⟩
 else if m=4 then ⟨t.fmt,t.kind,t.state,t.sur,t.giv,t.num++([65,66,67,68,69,70,71,72,73,74,75,76]:List UInt8).take (x 13).toNat,t.nat,t.bir,t.sex,t.exp,t.opt,t.sec⟩
 else if m=5 then ⟨t.fmt,t.kind,t.state,t.sur,t.giv,pkS [[],[65,60,66],[97],[65,66,67,68,69,70,71,72,73,74,75,76,77,78,79,80,81,82,83,84,85]] (x 4),t.nat,t.bir,t.sex,t.exp,t.opt,t.sec⟩
 else if m=6 then ⟨t.fmt,t.kind,t.state,t.sur,t.giv,t.num,t.nat,pkS [[],[56,53,49,51,48,49],[56,53,48,49,51,50],[56,60,48,49,48,49],[60,60,60,60,60],[56,53,57,57,48,48],[56,53,48,49,48,48],[56,53,60,60,60,60]] (x 8),t.sex,t.exp,t.opt,t.sec⟩
 else if m=7 then ⟨t.fmt,t.kind,t.state,t.sur,t.giv,t.num,t.nat,t.bir,pkS [[],[88],[77,70],[109]] (x 4),t.exp,t.opt,t.sec⟩
 else if m=8 then ⟨t.fmt,t.kind,t.state,t.sur,t.giv,t.num,t.nat,t.bir,t.sex,pkS [[],[50,53,48,50,50,57],[50,56,48,50,50,57],[50,53,49,51,48,49],[50,53,60,60,60,60],[48,48,48,48,48,48]] (x 6),t.opt,t.sec⟩
 else if m=9 then ⟨t.fmt,t.kind,t.state,t.sur,t.giv,t.num,t.nat,t.bir,t.sex,t.exp,pkS [[60,65],[65,60],[65,60,66],[97],[65,66,67,68,69,70,71,72,73,74,75,76,77,78,79,80]] (x 5),t.sec⟩
 else if m=10 then ⟨t.fmt,t.kind,t.state,t.sur,t.giv,t.num,t.nat,t.bir,t.sex,t.exp,t.opt,pkS [[65],[60],[65,66,67,68,69,70,71,72,73,74,75,76],[65,60,49]] (x 4)⟩
 else ⟨t.fmt,t.kind,t.state,t.sur,t.giv,t.num,pkS [[],[85,84,79,80],[117]] (x 3),t.bir,t.sex,t.exp,t.opt,t.sec⟩
def oddZF (L:List Int) (a:Nat) (z:Zon):Zon×Nat:=(oddZ (nxV L a 12) (nxV L (nxA L a)) z,nxA L (nxA L a))
theorem oddZF_le {L:List Int} {a:Nat} (ha:a≤L.length) (z:Zon):(oddZF L a z).2≤L.length:=qCq (qCq ha)
theorem oddZ_len (m:Int) (x:Int→Int) {z:Zon} (hz:zLen z) (hn:z.num.length≤9000):zLen (oddZ m x z):=by
 obtain ⟨z1,z2,z3,z4,z5,z6,z7,z8,z9,z10,z11⟩:=hz
 have hc:(z.num++([65,66,67,68,69,70,71,72,73,74,75,76]:List UInt8).take (x 13).toNat).length≤10000:=by
  simp only [List.length_append,List.length_take,List.length_cons,List.length_nil];omega
 unfold oddZ
 by_cases c0:m=0
 ·rw [if_pos c0];exact ⟨z1,z2,z3,z4,z5,z6,z7,z8,z9,z10,z11⟩
 rw [if_neg c0]
 by_cases c1:m=1
 ·rw [if_pos c1];exact ⟨pkS_len rfl _,z2,z3,z4,z5,z6,z7,z8,z9,z10,z11⟩
 rw [if_neg c1]
 by_cases c2:m=2
 ·rw [if_pos c2];exact ⟨z1,pkS_len rfl _,z3,z4,z5,by simp,z7,z8,z9,z10,z11⟩
 rw [if_neg c2]
 by_cases c3:m=3
 ·rw [if_pos c3];exact ⟨z1,z2,pkS_len rfl _,z4,z5,z6,z7,z8,z9,z10,z11⟩
 rw [if_neg c3]
 by_cases c4:m=4
 ·rw [if_pos c4];exact ⟨z1,z2,z3,z4,hc,z6,z7,z8,z9,z10,z11⟩
 rw [if_neg c4]
 by_cases c5:m=5
 ·rw [if_pos c5];exact ⟨z1,z2,z3,z4,pkS_len rfl _,z6,z7,z8,z9,z10,z11⟩
 rw [if_neg c5]
 by_cases c6:m=6
 ·rw [if_pos c6];exact ⟨z1,z2,z3,z4,z5,z6,pkS_len rfl _,z8,z9,z10,z11⟩
 rw [if_neg c6]
 by_cases c7:m=7
 ·rw [if_pos c7];exact ⟨z1,z2,z3,z4,z5,z6,z7,pkS_len rfl _,z9,z10,z11⟩
 rw [if_neg c7]
 by_cases c8:m=8
 ·rw [if_pos c8];exact ⟨z1,z2,z3,z4,z5,z6,z7,z8,pkS_len rfl _,z10,z11⟩
 rw [if_neg c8]
 by_cases c9:m=9
 ·rw [if_pos c9];exact ⟨z1,z2,z3,z4,z5,z6,z7,z8,z9,pkS_len rfl _,z11⟩
 rw [if_neg c9]
 by_cases c10:m=10
 ·rw [if_pos c10];exact ⟨z1,z2,z3,z4,z5,z6,z7,z8,z9,z10,pkS_len rfl _⟩
 rw [if_neg c10]
 exact ⟨z1,z2,z3,z4,z5,pkS_len rfl _,z7,z8,z9,z10,z11⟩
theorem OddZone_spec (L:List Int) (hL:L.length≤1000000) (a:Nat) (ha:a≤L.length) (z:Zon) (hn:z.num.length≤9000) :
  Spec Tryz.prog 22 [.ptr 0 0,zAV z] [.row (diceR L a)] (fun r h'=>r=zAV (oddZF L a z).1∧h'=[.row (diceR L (oddZF L a z).2)]):=by
 obtain ⟨m',a1,e1,e2,g1,hm',hN⟩:=qCa L hL a ha
 obtain ⟨x,a2,e3,e4,g2,hx,hN2⟩:=qCa L hL a1 g1
 unfold oddZF
 rw [e1,e2,e3,e4]
 have hN:=hN 12 (by omega) (by omega)
 generalize m' 12=m at hN ⊢
 clear e1 e2 e3 e4 hm'
 obtain ⟨fmt,kind,state,sur,giv,num,nat,bir,sex,exp,opt,sec⟩:=z
 unfold zAV zCells
 simp only at hn ⊢
 refine qAb hT Tryz.func22 rfl rfl rfl rfl ?_;intro E hE
 refine ww ?_
 refine qAd (callS1 rfl rfl (hN) [0] (by decide) rfl rfl rfl rfl rfl rfl rfl) rfl ?_
 refine ww ?_
 refine qAa rfl (fun c0=>?_) (fun c0=>?_)
 ·have c0':m=0:=by simpa using c0
  refine ww ?_
  refine qAd (callS1 rfl rfl (hN2 6 (by omega) (by omega)) [0] (by decide) rfl rfl rfl rfl rfl rfl rfl) rfl ?_
  refine ww ?_
  have hf:oddZ m x ⟨fmt,kind,state,sur,giv,num,nat,bir,sex,exp,opt,sec⟩=⟨IntKind.i64.wrap (x 6-1),kind,state,sur,giv,num,nat,bir,sex,exp,opt,sec⟩:=by unfold oddZ;simp only [if_pos c0']
  rw [hf]
  exact rq ⟨rfl,rfl⟩ rfl (.refl _)
 have c0':¬ m=0:=by simpa using c0
 refine ww ?_
 refine qAa rfl (fun c1=>?_) (fun c1=>?_)
 ·have c1':m=1:=by simpa using c1
  have hxn:=hx 5 (by omega)
  have hat:=pkS_at (T:=[[],[112],[80,80,80],[80,60],[49]]) hxn
  refine ww ?_
  refine qAd (callS1 rfl rfl (hN2 5 (by omega) (by omega)) [0] (by decide) rfl rfl rfl rfl rfl rfl rfl) rfl ?_
  refine ww ?_
  refine wwi hat ?_
  refine ww ?_
  have hf:oddZ m x ⟨fmt,kind,state,sur,giv,num,nat,bir,sex,exp,opt,sec⟩=⟨fmt,pkS [[],[112],[80,80,80],[80,60],[49]] (x 5),state,sur,giv,num,nat,bir,sex,exp,opt,sec⟩:=by unfold oddZ;simp only [if_neg c0',if_pos c1']
  rw [hf]
  exact rq ⟨rfl,rfl⟩ rfl (.refl _)
 have c1':¬ m=1:=by simpa using c1
 refine ww ?_
 refine qAa rfl (fun c2=>?_) (fun c2=>?_)
 ·have c2':m=2:=by simpa using c2
  have hxn:=hx 4 (by omega)
  have hat:=pkS_at (T:=[[],[85,84,79,80],[85,49],[60,60,60]]) hxn
  refine ww ?_
  refine qAd (callS1 rfl rfl (hN2 4 (by omega) (by omega)) [0] (by decide) rfl rfl rfl rfl rfl rfl rfl) rfl ?_
  refine ww ?_
  refine wwi hat ?_
  refine ww ?_
  have hf:oddZ m x ⟨fmt,kind,state,sur,giv,num,nat,bir,sex,exp,opt,sec⟩=⟨fmt,kind,pkS [[],[85,84,79,80],[85,49],[60,60,60]] (x 4),sur,giv,num,[85,84,79],bir,sex,exp,opt,sec⟩:=by unfold oddZ;simp only [if_neg c0',if_neg c1',if_pos c2']
  rw [hf]
  exact rq ⟨rfl,rfl⟩ rfl (.refl _)
 have c2':¬ m=2:=by simpa using c2
 refine ww ?_
 refine qAa rfl (fun c3=>?_) (fun c3=>?_)
 ·have c3':m=3:=by simpa using c3
  have hxn:=hx 6 (by omega)
  have hat:=pkS_at (T:=[[],[32,65],[65,32,32,66],[97],[65,60,66],[65,32]]) hxn
  refine ww ?_
  refine qAd (callS1 rfl rfl (hN2 6 (by omega) (by omega)) [0] (by decide) rfl rfl rfl rfl rfl rfl rfl) rfl ?_
  refine ww ?_
  refine wwi hat ?_
  refine ww ?_
  have hf:oddZ m x ⟨fmt,kind,state,sur,giv,num,nat,bir,sex,exp,opt,sec⟩=⟨fmt,kind,state,pkS [[],[32,65],[65,32,32,66],[97],[65,60,66],[65,32]] (x 6),giv,num,nat,bir,sex,exp,opt,sec⟩:=by unfold oddZ;simp only [if_neg c0',if_neg c1',if_neg c2',if_pos c3']
  rw [hf]
  exact rq ⟨rfl,rfl⟩ rfl (.refl _)
 have c3':¬ m=3:=by simpa using c3
 refine ww ?_
 refine qAa rfl (fun c4=>?_) (fun c4=>?_)
 ·have c4':m=4:=by simpa using c4
  have h13:=hx 13 (by omega)
  have hx13:0≤x 13∧x 13≤12:=by omega
  refine wwn ?_
  refine AW_drawT (fun i=>bif Nat.beq i 1 then [1] else bif Nat.beq i 3 then [0] else bif Nat.beq i 7 then [1] else []) (fun i=>bif Nat.beq i 3 then [0] else bif Nat.beq i 7 then [1] else []) mixed (by kernel_rfl) ?_
  refine wwg ?_
  refine qAq (v:=.d (.int .i64 (x 13))) (os:=[.row (diceR L a2)]) (fun k hk1 hk2=>callS1 rfl rfl (hN2 13 (by omega) (by omega)) [0] (by decide) (by show [k[0]?]=_;rw [hk2 0 List.mem_cons_self];rfl) rfl rfl rfl rfl rfl rfl) rfl ?_
  refine wwg ?_
  refine ww ?_
  have hf:oddZ m x ⟨fmt,kind,state,sur,giv,num,nat,bir,sex,exp,opt,sec⟩=⟨fmt,kind,state,sur,giv,num++([65,66,67,68,69,70,71,72,73,74,75,76]:List UInt8).take (x 13).toNat,nat,bir,sex,exp,opt,sec⟩:=by unfold oddZ;simp only [if_neg c0',if_neg c1',if_neg c2',if_neg c3',if_pos c4']
  rw [hf]
  exact rq ⟨rfl,rfl⟩ rfl (.refl _)
 have c4':¬ m=4:=by simpa using c4
 refine ww ?_
 refine qAa rfl (fun c5=>?_) (fun c5=>?_)
 ·have c5':m=5:=by simpa using c5
  have hxn:=hx 4 (by omega)
  have hat:=pkS_at (T:=[[],[65,60,66],[97],[65,66,67,68,69,70,71,72,73,74,75,76,77,78,79,80,81,82,83,84,85]]) hxn
  refine ww ?_
  refine qAd (callS1 rfl rfl (hN2 4 (by omega) (by omega)) [0] (by decide) rfl rfl rfl rfl rfl rfl rfl) rfl ?_
  refine ww ?_
  refine wwi hat ?_
  refine ww ?_
  have hf:oddZ m x ⟨fmt,kind,state,sur,giv,num,nat,bir,sex,exp,opt,sec⟩=⟨fmt,kind,state,sur,giv,pkS [[],[65,60,66],[97],[65,66,67,68,69,70,71,72,73,74,75,76,77,78,79,80,81,82,83,84,85]] (x 4),nat,bir,sex,exp,opt,sec⟩:=by unfold oddZ;simp only [if_neg c0',if_neg c1',if_neg c2',if_neg c3',if_neg c4',if_pos c5']
  rw [hf]
  exact rq ⟨rfl,rfl⟩ rfl (.refl _)
 have c5':¬ m=5:=by simpa using c5
 refine ww ?_
 refine qAa rfl (fun c6=>?_) (fun c6=>?_)
 ·have c6':m=6:=by simpa using c6
  have hxn:=hx 8 (by omega)
  have hat:=pkS_at (T:=[[],[56,53,49,51,48,49],[56,53,48,49,51,50],[56,60,48,49,48,49],[60,60,60,60,60],[56,53,57,57,48,48],[56,53,48,49,48,48],[56,53,60,60,60,60]]) hxn
  refine ww ?_
  refine qAd (callS1 rfl rfl (hN2 8 (by omega) (by omega)) [0] (by decide) rfl rfl rfl rfl rfl rfl rfl) rfl ?_
  refine ww ?_
  refine wwi hat ?_
  refine ww ?_
  have hf:oddZ m x ⟨fmt,kind,state,sur,giv,num,nat,bir,sex,exp,opt,sec⟩=⟨fmt,kind,state,sur,giv,num,nat,pkS [[],[56,53,49,51,48,49],[56,53,48,49,51,50],[56,60,48,49,48,49],[60,60,60,60,60],[56,53,57,57,48,48],[56,53,48,49,48,48],[56,53,60,60,60,60]] (x 8),sex,exp,opt,sec⟩:=by unfold oddZ;simp only [if_neg c0',if_neg c1',if_neg c2',if_neg c3',if_neg c4',if_neg c5',if_pos c6']
  rw [hf]
  exact rq ⟨rfl,rfl⟩ rfl (.refl _)
 have c6':¬ m=6:=by simpa using c6
 refine ww ?_
 refine qAa rfl (fun c7=>?_) (fun c7=>?_)
 ·have c7':m=7:=by simpa using c7
  have hxn:=hx 4 (by omega)
  have hat:=pkS_at (T:=[[],[88],[77,70],[109]]) hxn
  refine ww ?_
  refine qAd (callS1 rfl rfl (hN2 4 (by omega) (by omega)) [0] (by decide) rfl rfl rfl rfl rfl rfl rfl) rfl ?_
  refine ww ?_
  refine wwi hat ?_
  refine ww ?_
  have hf:oddZ m x ⟨fmt,kind,state,sur,giv,num,nat,bir,sex,exp,opt,sec⟩=⟨fmt,kind,state,sur,giv,num,nat,bir,pkS [[],[88],[77,70],[109]] (x 4),exp,opt,sec⟩:=by unfold oddZ;simp only [if_neg c0',if_neg c1',if_neg c2',if_neg c3',if_neg c4',if_neg c5',if_neg c6',if_pos c7']
  rw [hf]
  exact rq ⟨rfl,rfl⟩ rfl (.refl _)
 have c7':¬ m=7:=by simpa using c7
 refine ww ?_
 refine qAa rfl (fun c8=>?_) (fun c8=>?_)
 ·have c8':m=8:=by simpa using c8
  have hxn:=hx 6 (by omega)
  have hat:=pkS_at (T:=[[],[50,53,48,50,50,57],[50,56,48,50,50,57],[50,53,49,51,48,49],[50,53,60,60,60,60],[48,48,48,48,48,48]]) hxn
  refine ww ?_
  refine qAd (callS1 rfl rfl (hN2 6 (by omega) (by omega)) [0] (by decide) rfl rfl rfl rfl rfl rfl rfl) rfl ?_
  refine ww ?_
  refine wwi hat ?_
  refine ww ?_
  have hf:oddZ m x ⟨fmt,kind,state,sur,giv,num,nat,bir,sex,exp,opt,sec⟩=⟨fmt,kind,state,sur,giv,num,nat,bir,sex,pkS [[],[50,53,48,50,50,57],[50,56,48,50,50,57],[50,53,49,51,48,49],[50,53,60,60,60,60],[48,48,48,48,48,48]] (x 6),opt,sec⟩:=by unfold oddZ;simp only [if_neg c0',if_neg c1',if_neg c2',if_neg c3',if_neg c4',if_neg c5',if_neg c6',if_neg c7',if_pos c8']
  rw [hf]
  exact rq ⟨rfl,rfl⟩ rfl (.refl _)
 have c8':¬ m=8:=by simpa using c8
 refine ww ?_
 refine qAa rfl (fun c9=>?_) (fun c9=>?_)
 ·have c9':m=9:=by simpa using c9
  have hxn:=hx 5 (by omega)
  have hat:=pkS_at (T:=[[60,65],[65,60],[65,60,66],[97],[65,66,67,68,69,70,71,72,73,74,75,76,77,78,79,80]]) hxn
  refine ww ?_
  refine qAd (callS1 rfl rfl (hN2 5 (by omega) (by omega)) [0] (by decide) rfl rfl rfl rfl rfl rfl rfl) rfl ?_
  refine ww ?_
  refine wwi hat ?_
  refine ww ?_
  have hf:oddZ m x ⟨fmt,kind,state,sur,giv,num,nat,bir,sex,exp,opt,sec⟩=⟨fmt,kind,state,sur,giv,num,nat,bir,sex,exp,pkS [[60,65],[65,60],[65,60,66],[97],[65,66,67,68,69,70,71,72,73,74,75,76,77,78,79,80]] (x 5),sec⟩:=by unfold oddZ;simp only [if_neg c0',if_neg c1',if_neg c2',if_neg c3',if_neg c4',if_neg c5',if_neg c6',if_neg c7',if_neg c8',if_pos c9']
  rw [hf]
  exact rq ⟨rfl,rfl⟩ rfl (.refl _)
 have c9':¬ m=9:=by simpa using c9
 refine ww ?_
 refine qAa rfl (fun c10=>?_) (fun c10=>?_)
 ·have c10':m=10:=by simpa using c10
  have hxn:=hx 4 (by omega)
  have hat:=pkS_at (T:=[[65],[60],[65,66,67,68,69,70,71,72,73,74,75,76],[65,60,49]]) hxn
  refine ww ?_
  refine qAd (callS1 rfl rfl (hN2 4 (by omega) (by omega)) [0] (by decide) rfl rfl rfl rfl rfl rfl rfl) rfl ?_
  refine ww ?_
  refine wwi hat ?_
  refine ww ?_
  have hf:oddZ m x ⟨fmt,kind,state,sur,giv,num,nat,bir,sex,exp,opt,sec⟩=⟨fmt,kind,state,sur,giv,num,nat,bir,sex,exp,opt,pkS [[65],[60],[65,66,67,68,69,70,71,72,73,74,75,76],[65,60,49]] (x 4)⟩:=by unfold oddZ;simp only [if_neg c0',if_neg c1',if_neg c2',if_neg c3',if_neg c4',if_neg c5',if_neg c6',if_neg c7',if_neg c8',if_neg c9',if_pos c10']
  rw [hf]
  exact rq ⟨rfl,rfl⟩ rfl (.refl _)
 have c10':¬ m=10:=by simpa using c10
 refine ww ?_
 have hxn:=hx 3 (by omega)
 have hat:=pkS_at (T:=[[],[85,84,79,80],[117]]) hxn
 refine ww ?_
 refine qAd (callS1 rfl rfl (hN2 3 (by omega) (by omega)) [0] (by decide) rfl rfl rfl rfl rfl rfl rfl) rfl ?_
 refine ww ?_
 refine wwi hat ?_
 refine ww ?_
 have hf:oddZ m x ⟨fmt,kind,state,sur,giv,num,nat,bir,sex,exp,opt,sec⟩=⟨fmt,kind,state,sur,giv,num,pkS [[],[85,84,79,80],[117]] (x 3),bir,sex,exp,opt,sec⟩:=by unfold oddZ;simp only [if_neg c0',if_neg c1',if_neg c2',if_neg c3',if_neg c4',if_neg c5',if_neg c6',if_neg c7',if_neg c8',if_neg c9',if_neg c10']
 rw [hf]
 exact rq ⟨rfl,rfl⟩ rfl (.refl _)
end Tdoc
/- Dice: details. -/
set_option maxHeartbeats 8000000
set_option maxRecDepth 100000
set_option linter.unusedVariables false
set_option linter.unusedSimpArgs false
namespace Tdoc
open Go Go.Proofs
theorem flat_at {sz:Nat}:∀ {es:List (List Dat)} {i j:Nat} {e:List Dat} {d:Dat},(∀ e,e∈es→e.length=sz)→es[i]?=some e→e[j]?=some d→es.flatten[i*sz+j]?=some d
 | [],i,j,e,d,_,h,_=>by simp at h
 | a::l,0,j,e,d,hs,h,h2=>by
  simp at h;subst h
  have hj:=(List.getElem?_eq_some_iff.1 h2).1
  rw [List.flatten_cons,Nat.zero_mul,Nat.zero_add,List.getElem?_append_left hj];exact h2
 | a::l,i+1,j,e,d,hs,h,h2=>by
  have ha:=hs a (by simp)
  have:=flat_at (es:=l) (i:=i) (fun e he=>hs e (by simp [he])) (by simpa using h) h2
  rw [List.flatten_cons,List.getElem?_append_right (by rw [ha,Nat.succ_mul];omega),ha,show (i+1)*sz+j-sz=i*sz+j by rw [Nat.succ_mul];omega]
  exact this
theorem RowDat_flat {sz:Nat} {es:List (List Dat)} (hs:∀ e,e∈es→e.length=sz):RowDat (flatAV es) 0 sz es :=
 ⟨hs,fun i e j d h1 h2=>⟨.d d,by unfold flatAV;rw [Nat.zero_add,List.getElem?_map,flat_at hs h1 h2];rfl,rfl⟩⟩
theorem qDe (a b:List (List Dat)):flatAV (a++b)=flatAV a++flatAV b:=by simp [flatAV]
theorem qCe (l:List Det):∀ e,e∈encDs l→e.length=2:=fun e he=>by
 obtain ⟨x,_,rfl⟩:=List.mem_map.1 he;rfl
def dTags (n:Int):List Int:=if n=12 then [24345,24358,24347,24405] else [24334,24336,24337,24386,24338,24339,24340,24341]
theorem dTags_len (n:Int):(dTags n).length≤8:=by unfold dTags;split <;> simp
theorem dTags_nodup (n:Int):(dTags n).Nodup:=by unfold dTags;split <;> decide
def DetM (n:Int) (l:List Det):Prop:=(∀ d,d∈l→d.tag∈dTags n∧SignM 99 d.text)∧(l.map Det.tag).Nodup∧l.length≤8
def DetsP (L:List Int) (n:Int) (x:List Det×Nat):Prop:=DetM n x.1∧x.2≤L.length
theorem DetM.swap {n:Int} {a b:Det} {l:List Det} (h:DetM n (a::b::l)):DetM n (b::a::l):=by
 obtain ⟨h1,h2,h3⟩:=h
 refine ⟨fun d hd=>h1 d (by simp only [List.mem_cons] at hd ⊢;rcases hd with h | h | h <;> simp [h]),?_,by simpa using h3⟩
 simp only [List.map_cons,List.nodup_cons,List.mem_cons,not_or] at h2 ⊢
 exact ⟨⟨fun hh=>h2.1.1 hh.symm,h2.2.1⟩,h2.1.2,h2.2.2⟩
theorem DDetails_spec (L:List Int) (hL:L.length≤1000000) (a:Nat) (ha:a≤L.length) (n:Int) :
  Spec Tryz.prog 19 [.ptr 0 0,.d (.int .i64 n)] [.row (diceR L a)] (fun r h'=>∃ x,DetsP L n x∧r=.d (.sl 2 (encDs x.1))∧h'=[.row (diceR L x.2)]):=by
 have hO:=fun a ha=>One_spec L hL a ha 2 (by omega) (by omega)
 have hS:=fun a ha=>SignsD_spec L hL a ha 99 (by omega) (by omega)
 refine qAb hT Tryz.func19 rfl rfl rfl rfl ?_;intro E hE
 refine qAo ?_
 refine wwe ?_
 refine qAt (qAk ?_)
 refine wws ?_
 refine qAt (qAk ?_)
 refine wws ?_
 refine qAs (ι:=Unit) (fun _=>[(0,.ptr 0 0),(1,.d (.int .i64 n)),(5,.d (.sl 1 (encI (dTags n))))]) (fun _=>[.row (diceR L a),.room]) (fun _=>True) ?_ (fun _ _=>?_)
 ·refine ww ?_
  refine qAa rfl (fun c1=>?_) (fun c1=>?_)
  ·have c1':n=12:=by simpa using c1
   subst c1'
   refine ww ?_
   exact ⟨(),trivial,⟨.refl _,.refl _,.dat,trivial⟩,HLe.refl _⟩
  ·have c1':¬ n=12:=by simpa using c1
   have hd:dTags n=[24334,24336,24337,24386,24338,24339,24340,24341]:=by unfold dTags;rw [if_neg c1']
   rw [hd]
   refine ww ?_
   exact ⟨(),trivial,⟨.refl _,.refl _,.dat,trivial⟩,HLe.refl _⟩
 have hTl:=qDn (dTags n)
 have hT8:=dTags_len n
 refine wwe ?_
 refine qAt (qAk ?_)
 refine wws ?_
 refine AW_bufOf 6 2 1 (.inr rfl) rfl rfl ?_
 refine qAs (ι:=List Det×Nat) (fun x=>[(0,.ptr 0 0),(6,.bm 1 x.1.length)]) (fun x=>[.row (diceR L x.2),.buf 2 x.1.length (flatAV (encDs x.1))]) (fun x=>DetM n x.1∧x.2≤L.length) ?_ ?_
 ·refine ww ?_
  refine qAn (ι:=Nat×Nat×List Det) (fun x=>[(0,.ptr 0 0),(5,.d (.sl 1 (encI (dTags n)))),(6,.bm 1 x.2.2.length),(7,.d (.int .i64 (x.1:Int)))]) (fun x=>[.row (diceR L x.2.1),.buf 2 x.2.2.length (flatAV (encDs x.2.2))])
   (fun x=>x.1≤(dTags n).length∧x.2.1≤L.length∧(x.2.2.map Det.tag).Sublist ((dTags n).take x.1)∧∀ d,d∈x.2.2→SignM 99 d.text) (fun x=>(dTags n).length-x.1) (0,a,[]) ⟨by simp,ha,by simp,by simp⟩ ⟨.refl _,.refl _,.refl _,.refl _,trivial⟩ (HLe.refl _) ?_
  rintro ⟨i,b,out⟩ ⟨h1,h2,h3,h4⟩
  simp only at h1 h2 h3 h4 ⊢
  have hol:out.length≤8:=by have:=h3.length_le;rw [List.length_map,List.length_take] at this;omega
  have hwr:IntKind.i64.wrap ((i:Int)+1)=((i+1:Nat):Int):=by rw [qAe (by omega)];simp
  refine ww ?_
  refine qAa rfl (fun c2=>?_) (fun c2=>?_)
  ·have c2':i < (dTags n).length:=by rw [hTl] at c2;simpa using c2
   have hel:(encI (dTags n))[((i:Int)).toNat]?=some [.int .i64 (dTags n)[i]]:=by simp [encI,c2']
   have htk:(dTags n).take (i+1)=(dTags n).take i++[(dTags n)[i]]:=List.take_succ_eq_append_getElem c2'
   have hskip:(out.map Det.tag).Sublist ((dTags n).take (i+1)):=by rw [htk];exact h3.trans (List.sublist_append_left _ _)
   refine ww ?_
   refine qAv (callX rfl rfl (hO b h2) [0] (by decide) rfl rfl rfl rfl (fun _=>rfl) (fun _=>rfl) (fun _=>rfl)) rfl ?_
   rintro ⟨f,b2⟩ r1
   simp only at r1 ⊢
   refine ww ?_
   refine qAa rfl (fun c3=>?_) (fun c3=>?_)
   ·have hs:=hS b2 r1
    have hso:=signF_ok (L:=L) (n:=99) r1 (by omega)
    generalize (dTags n)[i]=tg at hel htk
    generalize signF L b2 99=q at hs hso
    obtain ⟨s,b3⟩:=q
    simp only at hs hso
    have htake:((out++[(⟨tg,s⟩:Det)]).map Det.tag).Sublist ((dTags n).take (i+1)):=by rw [htk,List.map_append];exact h3.append_right _
    have hsg:∀ d,d∈out++[(⟨tg,s⟩:Det)]→SignM 99 d.text:=fun d hd=>by
     rcases List.mem_append.1 hd with hd | hd
     ·exact h4 d hd
     ·rw [List.mem_singleton.1 hd];exact hso.1
    refine wwn ?_
    refine qBd (fun i=>bif Nat.beq i 6 then [0] else bif Nat.beq i 9 then [1] else []) (fun i=>bif Nat.beq i 6 then [0] else bif Nat.beq i 9 then [1] else []) mixed (by kernel_rfl) ?_
    refine wwg ?_
    refine qBw (qAh hT rfl rfl rfl rfl (by omega) hel) rfl rfl ?_
    refine wwg ?_
    refine qAq (v:=.d (.str s)) (os:=[.row (diceR L b3)]) (fun k hk1 hk2=>callS1 rfl rfl hs [0] (by decide) (by show [k[0]?]=_;rw [hk2 0 List.mem_cons_self];rfl) rfl rfl rfl rfl rfl rfl) rfl ?_
    refine wwg ?_
    refine qAq (os:=[]) (fun k hk1 hk2=>qBu hT rfl rfl) rfl ?_
    refine wwg ?_
    refine qAq (v:=.bm 1 (out.length+1)) (os:=[.buf 2 (out.length+1) (flatAV (encDs out)++flatAV [[.int .i64 tg,.str s]])]) (fun k hk1 hk2=>bufApp_ok (i:=1) (sz:=2) (by_:=24) (n:=out.length) (es2:=[[.int .i64 tg,.str s]]) hT rfl rfl rfl rfl (hk2 1 List.mem_cons_self) rfl (by show (out.length+1)*(24+1)≤_;omega)) rfl ?_
    refine wwg ?_
    refine ww ?_
    have hfl:flatAV (encDs (out++[(⟨tg,s⟩:Det)]))=flatAV (encDs out)++flatAV [[.int .i64 tg,.str s]]:=by rw [encDs_append,qDe];rfl
    refine ⟨(i+1,b3,out++[⟨tg,s⟩]),⟨c2',hso.2,htake,hsg⟩,by simp only;omega,⟨.refl _,.refl _,AV.le.eq (by show AV.bm 1 (out.length+1)=AV.bm 1 (out++[(⟨tg,s⟩:Det)]).length;rw [List.length_append];rfl),.int hwr,trivial⟩,?_⟩
    rw [show (out++[(⟨tg,s⟩:Det)]).length=out.length+1 by simp,hfl]
    exact HLe.refl _
   ·refine ww ?_
    exact ⟨(i+1,b2,out),⟨c2',r1,hskip,h4⟩,by simp only;omega,⟨.refl _,.refl _,.refl _,.int hwr,trivial⟩,HLe.refl _⟩
  ·have c2':i=(dTags n).length:=by rw [hTl] at c2;simp at c2;omega
   subst c2'
   rw [List.take_length] at h3
   refine ww ?_
   exact ⟨(out,b),⟨⟨fun d hd=>⟨h3.subset (List.mem_map_of_mem hd),h4 d hd⟩,(dTags_nodup n).sublist h3,hol⟩,h2⟩,⟨.refl _,.refl _,trivial⟩,HLe.refl _⟩
 rintro ⟨l,b⟩ ⟨hd,hb⟩
 simp only at hd hb ⊢
 have hsz:=qCe l
 have hll:=hd.2.2
 refine qAs (ι:=List Det×Nat) (fun x=>[(0,.ptr 0 0),(6,.bm 1 x.1.length)]) (fun x=>[.row (diceR L x.2),.buf 2 x.1.length (flatAV (encDs x.1))]) (fun x=>DetM n x.1∧x.2≤L.length) ?_ ?_
 ·refine ww ?_
  refine AWk_gopX (.d (.bool false)) rfl rfl rfl (fun hg=>⟨by first | exact True.intro | exact ⟨hg,True.intro⟩ | exact ⟨hg,hg,True.intro⟩,callX rfl rfl (hO b hb) [0] (by decide) rfl rfl rfl rfl (fun _=>rfl) (fun _=>rfl) (fun _=>rfl)⟩) ?_ ?_
  ·rintro hg ⟨f,b2⟩ r1
   simp only at r1 ⊢
   have hg':1 < l.length:=by simp [gval] at hg;omega
   refine ww ?_
   refine qAa rfl (fun c4=>?_) (fun c4=>?_)
   ·obtain ⟨d0,d1,r,rfl⟩:∃ d0 d1 r,l=d0::d1::r:=match l,hg' with
     | d0::d1::r,_=>⟨d0,d1,r,rfl⟩
     | [x],h=>by simp at h
     | [],h=>by simp at h
    have hn2:(d0::d1::r).length=r.length+2:=rfl
    refine wwn ?_
    refine qBd (fun i=>bif Nat.beq i 4 then [1] else bif Nat.beq i 7 then [1] else bif Nat.beq i 9 then [1] else bif Nat.beq i 11 then [1] else []) (fun i=>bif Nat.beq i 9 then [1] else bif Nat.beq i 11 then [1] else []) mixed (by kernel_rfl) ?_
    refine wwg ?_
    refine qBw (qAr (sz:=2) hT rfl rfl rfl rfl ⟨by omega,by rw [hn2];omega⟩) rfl rfl ?_
    refine qAq (v:=.agg [.d (.int .i64 d1.tag),.d (.str d1.text)]) (os:=[]) (fun k hk1 hk2=>bufLoadN (ti:=⟨.struct [(0,1,false),(1,1,false)],2,24,[.d (.int .i64 0),.d (.str [])]⟩) hT rfl rfl (hk2 1 List.mem_cons_self) rfl rfl (by simp) (by simp [flatAV,encDs,encD]) rfl) rfl ?_
    refine wwg ?_
    refine qBw (qAr (sz:=2) hT rfl rfl rfl rfl ⟨by omega,by rw [hn2];omega⟩) rfl rfl ?_
    refine qAq (v:=.agg [.d (.int .i64 d0.tag),.d (.str d0.text)]) (os:=[]) (fun k hk1 hk2=>bufLoadN (ti:=⟨.struct [(0,1,false),(1,1,false)],2,24,[.d (.int .i64 0),.d (.str [])]⟩) hT rfl rfl (hk2 1 List.mem_cons_self) rfl rfl (by simp) (by simp [flatAV,encDs,encD]) rfl) rfl ?_
    refine wwg ?_
    refine qBw (qAr (sz:=2) hT rfl rfl rfl rfl ⟨by omega,by rw [hn2];omega⟩) rfl rfl ?_
    refine qAq (v:=.any) (os:=[.buf 2 (d0::d1::r).length (flatAV (encDs (d1::d1::r)))]) (fun k hk1 hk2=>bufStoreN (ti:=⟨.struct [(0,1,false),(1,1,false)],2,24,[.d (.int .i64 0),.d (.str [])]⟩) (cs:=[.d (.int .i64 d1.tag),.d (.str d1.text)]) hT rfl rfl rfl rfl (hk2 1 List.mem_cons_self) rfl rfl (by simp) (by simp [flatAV,encDs,encD]) rfl) rfl ?_
    refine wwg ?_
    refine qBw (qAr (sz:=2) hT rfl rfl rfl rfl ⟨by omega,by rw [hn2];omega⟩) rfl rfl ?_
    refine qAq (v:=.any) (os:=[.buf 2 (d0::d1::r).length (flatAV (encDs (d1::d0::r)))]) (fun k hk1 hk2=>bufStoreN (ti:=⟨.struct [(0,1,false),(1,1,false)],2,24,[.d (.int .i64 0),.d (.str [])]⟩) (cs:=[.d (.int .i64 d0.tag),.d (.str d0.text)]) hT rfl rfl rfl rfl (hk2 1 List.mem_cons_self) rfl rfl (by simp) (by simp [flatAV,encDs,encD]) rfl) rfl ?_
    refine wwg ?_
    refine ww ?_
    exact ⟨(d1::d0::r,b2),⟨hd.swap,r1⟩,⟨.refl _,.refl _,trivial⟩,HLe.refl _⟩
   ·refine ww ?_
    exact ⟨(l,b2),⟨hd,r1⟩,⟨.refl _,.refl _,trivial⟩,HLe.refl _⟩
  ·intro hg
   have hg':¬ 1 < l.length:=by simp [gval] at hg;omega
   refine qCp hT rfl rfl (by intro hh;simp at hh;omega) ?_
   refine ww ?_
   refine qAa rfl (fun c4=>?_) (fun c4=>?_)
   ·exact absurd c4 (by simp)
   ·refine ww ?_
    exact ⟨(l,b),⟨hd,hb⟩,⟨.refl _,.refl _,trivial⟩,HLe.refl _⟩
 rintro ⟨l,b⟩ ⟨hd,hb⟩
 simp only at hd hb ⊢
 refine qBj 6 1 2 (encDs l) rfl rfl (qBs l) (RowDat_flat (qCe l)) rfl ?_
 refine ww ?_
 exact ret_q ⟨(l,b),⟨hd,hb⟩,rfl,rfl⟩ rfl .dat rfl rfl rfl rfl
end Tdoc
/- made.Spoil. -/
set_option linter.unusedVariables false
set_option linter.unusedSimpArgs false
namespace Tdoc
open Go Go.Proofs
end Tdoc
/- made.Spoil: the other changes; the contract. -/
set_option linter.unusedVariables false
set_option linter.unusedSimpArgs false
namespace Tdoc
open Go Go.Proofs
end Tdoc
/- Dice: odd details. -/
set_option maxHeartbeats 8000000
set_option maxRecDepth 100000
set_option linter.unusedVariables false
set_option linter.unusedSimpArgs false
namespace Tdoc
open Go Go.Proofs
theorem RowDat_eq {cells:List AV} {sz:Nat} {es:List (List Dat)} (hs:∀ e,e∈es→e.length=sz) (h:cells=flatAV es):RowDat cells 0 sz es:=by subst h;exact RowDat_flat hs
theorem flat_set {α:Type} {sz j:Nat} (x:α) (hj:j < sz):∀ {es:List (List α)} {k:Nat} {e:List α},(∀ e,e∈es→e.length=sz)→es[k]?=some e→es.flatten.set (k*sz+j) x=(es.set k (e.set j x)).flatten
 | [],k,e,_,h=>by simp at h
 | a::l,0,e,hs,h=>by
  simp at h;subst h
  have ha:=hs a (by simp)
  rw [List.flatten_cons,Nat.zero_mul,Nat.zero_add,List.set_append_left _ _ (by omega)]
  rfl
 | a::l,k+1,e,hs,h=>by
  have ha:=hs a (by simp)
  have:=flat_set x hj (es:=l) (k:=k) (e:=e) (fun e he=>hs e (by simp [he])) (by simpa using h)
  rw [List.flatten_cons,List.set_append_right _ _ (by rw [ha,Nat.succ_mul];omega),ha,show (k+1)*sz+j-sz=k*sz+j by rw [Nat.succ_mul];omega,this]
  rfl
theorem flat_cut {α:Type} {sz:Nat}:∀ {es:List (List α)} {k:Nat} {e:List α},(∀ e,e∈es→e.length=sz)→es[k]?=some e→(es.flatten.drop (k*sz)).take sz=e
 | [],k,e,_,h=>by simp at h
 | a::l,0,e,hs,h=>by
  simp at h;subst h
  have ha:=hs a (by simp)
  rw [List.flatten_cons,Nat.zero_mul,List.drop_zero,List.take_append_of_le_length (by omega),List.take_of_length_le (by omega)]
 | a::l,k+1,e,hs,h=>by
  have ha:=hs a (by simp)
  rw [List.flatten_cons,show (k+1)*sz=a.length+k*sz by rw [Nat.succ_mul];omega,List.drop_append,List.drop_of_length_le (by omega),List.nil_append,show a.length+k*sz-a.length=k*sz by omega]
  exact flat_cut (es:=l) (k:=k) (fun e he=>hs e (by simp [he])) (by simpa using h)
theorem flatAV_set {sz j k:Nat} {es:List (List Dat)} {e:List Dat} (x:Dat) (hj:j < sz) (hs:∀ e,e∈es→e.length=sz) (h:es[k]?=some e):(flatAV es).set (k*sz+j) (.d x)=flatAV (es.set k (e.set j x)):=by
 unfold flatAV
 rw [← flat_set x hj hs h,List.map_set]
theorem flatAV_cut {sz k:Nat} {es:List (List Dat)} {e:List Dat} (hs:∀ e,e∈es→e.length=sz) (h:es[k]?=some e):((flatAV es).drop (k*sz)).take sz=e.map .d:=by
 unfold flatAV
 rw [← flat_cut hs h,List.map_take,List.map_drop]
theorem encDs_get {l:List Det} {k:Nat} {d:Det} (h:l[k]?=some d):(encDs l)[k]?=some (encD d):=by unfold encDs;rw [List.getElem?_map,h];rfl
theorem encDs_set (l:List Det) (k:Nat) (d:Det):(encDs l).set k (encD d)=encDs (l.set k d):=by unfold encDs;rw [List.map_set]
theorem encDs_flat (l:List Det):(flatAV (encDs l)).length=l.length*2:=by rw [qDd (qCe l),qBs]
def oddD (d:Det) (k:Nat) (v:Int) (x:Int→Int) (l:List Det):List Det :=
 if v=0 then l.set k ⟨pkI [24334,24345,24342,4,-1] (x 5),d.text⟩
 else if v=1 then l.set k ⟨d.tag,List.replicate (pkI [0,1,99,100] (x 4)).toNat 0⟩
 else if v=2 then l++[d]
 else l++List.replicate 17 d
theorem oddD_len (d:Det) (k:Nat) (v:Int) (x:Int→Int) (l:List Det):(oddD d k v x l).length≤l.length+17:=by
 unfold oddD
 by_cases h0:v=0
 ·rw [if_pos h0];simp
 rw [if_neg h0]
 by_cases h1:v=1
 ·rw [if_pos h1];simp
 rw [if_neg h1]
 by_cases h2:v=2
 ·rw [if_pos h2];simp
 rw [if_neg h2];simp
def oddDF (L:List Int) (a:Nat) (l:List Det):List Det×Nat :=
 if l=[] then ([⟨pkI [24334,24345,24342,4] (nxV L a 4),[120]⟩],nxA L a)
 else (oddD (l.getD (nxV L a (l.length:Int)).toNat ⟨0,[]⟩) (nxV L a (l.length:Int)).toNat (nxV L (nxA L a) 4) (nxV L (nxA L (nxA L a))) l,if nxV L (nxA L a) 4=0∨nxV L (nxA L a) 4=1 then nxA L (nxA L (nxA L a)) else nxA L (nxA L a))
theorem oddDF_ok {L:List Int} {a:Nat} (ha:a≤L.length) (l:List Det):(oddDF L a l).1.length≤l.length+17∧(oddDF L a l).2≤L.length:=by
 unfold oddDF
 by_cases h0:l=[]
 ·rw [if_pos h0];exact ⟨by simp,qCq ha⟩
 rw [if_neg h0]
 refine ⟨oddD_len _ _ _ _ _,?_⟩
 simp only
 split
 ·exact qCq (qCq (qCq ha))
 ·exact qCq (qCq ha)
theorem OddDetails_spec (L:List Int) (hL:L.length≤1000000) (a:Nat) (ha:a≤L.length) (l:List Det) (hl:l.length≤50) :
  Spec Tryz.prog 24 [.ptr 0 0,.d (.sl 2 (encDs l))] [.row (diceR L a)] (fun r h'=>r=.d (.sl 2 (encDs (oddDF L a l).1))∧h'=[.row (diceR L (oddDF L a l).2)]):=by
 have hll:=qBs l
 by_cases h0:l=[]
 ·obtain ⟨x,a1,e1,e2,g1,hx,hN⟩:=qCa L hL a ha
  unfold oddDF
  rw [if_pos h0,e1,e2]
  clear e1 e2
  have hxn:=hx 4 (by omega)
  have hat:=pkI_at (T:=[24334,24345,24342,4]) hxn
  subst h0
  have hD:=hN 4 (by omega) (by omega)
  refine qAb hT Tryz.func24 rfl rfl rfl rfl ?_;intro E hE
  refine qAo ?_
  refine ww ?_
  refine qAd (bufApp0_ok (i:=1) hT rfl rfl rfl (.inr rfl) (by intro h;cases h) rfl rfl (by show (encDs []).length*(24+1)≤_;omega)) rfl ?_
  refine ww ?_
  refine qAa rfl (fun c1=>?_) (fun c1=>?_)
  case refine_2=>exact absurd c1 (by decide)
  refine ww ?_
  refine qAd (callS1 (H':=[.row (diceR L a1),.buf 2 (encDs []).length (flatAV (encDs []))]) rfl rfl hD [0] (by decide) rfl rfl rfl rfl rfl rfl rfl) rfl ?_
  refine ww ?_
  refine wwi hat ?_
  refine ww ?_
  exact rq ⟨rfl,rfl⟩ rfl AV.le.dat
 obtain ⟨m',a1,e1,e2,g1,hm',hN⟩:=qCa L hL a ha
 obtain ⟨v',a2,e3,e4,g2,hv',hN2⟩:=qCa L hL a1 g1
 obtain ⟨x,a3,e5,e6,g3,hx,hN3⟩:=qCa L hL a2 g2
 have hpos:0 < l.length:=List.length_pos_iff.2 h0
 unfold oddDF
 rw [if_neg h0,e1,e2,e3,e4,e5,e6]
 clear e1 e2 e3 e4 e5 e6
 have hN1:=hN (l.length:Int) (by omega) (by omega)
 have hv1:=hm' (l.length:Int) (by omega)
 obtain ⟨k,hk⟩:∃ k:Nat,m' (l.length:Int)=(k:Int):=⟨(m' (l.length:Int)).toNat,by omega⟩
 rw [hk] at hN1 hv1 ⊢
 rw [Int.toNat_natCast]
 have hkl:k < l.length:=by omega
 obtain ⟨d,hd⟩:∃ d,l[k]?=some d:=⟨l[k],by simp [hkl]⟩
 rw [show l.getD k ⟨0,[]⟩=d by simp [hd]]
 have hN2:=hN2 4 (by omega) (by omega)
 generalize v' 4=v at hN2 ⊢
 clear hv' hm'
 have hN1:Spec Tryz.prog 12 [.ptr 0 0,.d (.int .i64 ((encDs l).length:Int))] [.row (diceR L a)] (fun r h'=>r=.d (.int .i64 (k:Int))∧h'=[.row (diceR L a1)]):=by rw [hll];exact hN1
 refine qAb hT Tryz.func24 rfl rfl rfl rfl ?_;intro E hE
 refine qAo ?_
 refine ww ?_
 refine qAd (bufApp0_ok (i:=1) hT rfl rfl rfl (.inr rfl) (by intro h;cases h) rfl rfl (by show (encDs l).length*(24+1)≤_;omega)) rfl ?_
 refine ww ?_
 refine qAa rfl (fun c1=>?_) (fun c1=>?_)
 ·exact absurd c1 (by rw [hll];simp;omega)
 have hfl:=encDs_flat l
 refine ww ?_
 refine qAd (callS1 (H':=[.row (diceR L a1),.buf 2 (encDs l).length (flatAV (encDs l))]) rfl rfl hN1 [0] (by decide) rfl rfl rfl rfl rfl rfl rfl) rfl ?_
 refine ww ?_
 refine qAd (callS1 (H':=[.row (diceR L a2),.buf 2 (encDs l).length (flatAV (encDs l))]) rfl rfl hN2 [0] (by decide) rfl rfl rfl rfl rfl rfl rfl) rfl ?_
 refine ww ?_
 refine qAa rfl (fun c2=>?_) (fun c2=>?_)
 ·have c2':v=0:=by simpa using c2
  have hxn:=hx 5 (by omega)
  have hat:=pkI_at (T:=[24334,24345,24342,4,-1]) hxn
  have hD:=hN3 5 (by omega) (by omega)
  rw [show oddD d k v x l=l.set k ⟨pkI [24334,24345,24342,4,-1] (x 5),d.text⟩ by unfold oddD;rw [if_pos c2'],if_pos (.inl c2')]
  generalize pkI [24334,24345,24342,4,-1] (x 5)=v at hat ⊢
  have hset:=flatAV_set (j:=0) (.int .i64 v) (by omega) (qCe l) (encDs_get hd)
  refine ww ?_
  refine qAd (callS1 (H':=[.row (diceR L a3),.buf 2 (encDs l).length (flatAV (encDs l))]) rfl rfl hD [0] (by decide) rfl rfl rfl rfl rfl rfl rfl) rfl ?_
  refine ww ?_
  refine wwi hat ?_
  refine ww ?_
  refine qAd (qAc (qAr (sz:=2) hT rfl rfl rfl rfl (by omega))) rfl ?_
  refine qAd (qCl hT rfl rfl rfl rfl rfl) rfl ?_
  refine AWk_op0 (bufStoreE hT rfl rfl rfl rfl rfl rfl rfl (by simp;omega) rfl) rfl ?_
  refine wws ?_
  refine qBj 5 1 2 (encDs (l.set k ⟨v,d.text⟩)) rfl rfl (by rw [qBs,List.length_set,hll]) (RowDat_eq (qCe _) (by rw [Int.toNat_natCast];refine hset.trans ?_;rw [← encDs_set];rfl)) rfl ?_
  refine ww ?_
  exact rq ⟨rfl,rfl⟩ rfl AV.le.dat
 have c2':¬ v=0:=by simpa using c2
 refine ww ?_
 refine qAa rfl (fun c3=>?_) (fun c3=>?_)
 ·have c3':v=1:=by simpa using c3
  have hxn:=hx 4 (by omega)
  have hat:=pkI_at (T:=[0,1,99,100]) hxn
  have hm:=pkI_mem (T:=[0,1,99,100]) hxn
  have hD:=hN3 4 (by omega) (by omega)
  rw [show oddD d k v x l=l.set k ⟨d.tag,List.replicate (pkI [0,1,99,100] (x 4)).toNat 0⟩ by unfold oddD;rw [if_neg c2',if_pos c3'],if_pos (.inr c3')]
  generalize pkI [0,1,99,100] (x 4)=v at hat hm ⊢
  obtain ⟨n,rfl,hn⟩:∃ n:Nat,v=(n:Int)∧n≤1025:=⟨v.toNat,by simp at hm;omega,by simp at hm;omega⟩
  rw [Int.toNat_natCast]
  have hset:=flatAV_set (j:=1) (.str (List.replicate n 0)) (by omega) (qCe l) (encDs_get hd)
  refine ww ?_
  refine qAd (callS1 (H':=[.row (diceR L a3),.buf 2 (encDs l).length (flatAV (encDs l))]) rfl rfl hD [0] (by decide) rfl rfl rfl rfl rfl rfl rfl) rfl ?_
  refine ww ?_
  refine wwi hat ?_
  refine ww ?_
  refine qAd (makeDat_ok (n:=n) hT rfl rfl rfl rfl (by show 1*n≤_;omega) (by omega)) rfl ?_
  rw [encB_zeros]
  refine qCp hT rfl rfl (qDk (List.replicate n 0)) ?_
  rw [bytesOf_encB]
  refine ww ?_
  refine qAd (qAc (qAr (sz:=2) hT rfl rfl rfl rfl (by omega))) rfl ?_
  refine qAd (qCl hT rfl rfl rfl rfl rfl) rfl ?_
  refine AWk_op0 (bufStoreE hT rfl rfl rfl rfl rfl rfl rfl (by simp;omega) rfl) rfl ?_
  refine wws ?_
  refine qBj 5 1 2 (encDs (l.set k ⟨d.tag,List.replicate n 0⟩)) rfl rfl (by rw [qBs,List.length_set,hll]) (RowDat_eq (qCe _) (by rw [Int.toNat_natCast];refine hset.trans ?_;rw [← encDs_set];rfl)) rfl ?_
  refine ww ?_
  exact rq ⟨rfl,rfl⟩ rfl AV.le.dat
 have c3':¬ v=1:=by simpa using c3
 have hcut:=flatAV_cut (qCe l) (encDs_get hd)
 rw [if_neg (show ¬ (v=0∨v=1) by omega)]
 refine ww ?_
 refine qAa rfl (fun c4=>?_) (fun c4=>?_)
 ·have c4':v=2:=by simpa using c4
  rw [show oddD d k v x l=l++[d] by unfold oddD;rw [if_neg c2',if_neg c3',if_pos c4']]
  refine ww ?_
  refine qAd (qAc (qAr (sz:=2) hT rfl rfl rfl rfl (by omega))) rfl ?_
  refine qAd (bufLoadN (ti:=⟨.struct [(0,1,false),(1,1,false)],2,24,[.d (.int .i64 0),.d (.str [])]⟩) (cs:=[.d (.int .i64 d.tag),.d (.str d.text)]) hT rfl rfl rfl rfl rfl (by simp) (by simp;omega) (by rw [Int.toNat_natCast];exact hcut)) rfl ?_
  refine ww ?_
  refine qAd (bufApp_ok hT rfl rfl rfl rfl rfl rfl (by show ((encDs l).length+1)*(24+1)≤_;omega)) rfl ?_
  refine wws ?_
  refine qBj 5 1 2 (encDs (l++[d])) rfl rfl (by rw [qBs,List.length_append,hll];rfl) (RowDat_eq (qCe _) (by rw [encDs_append,qDe];rfl)) rfl ?_
  refine ww ?_
  exact rq ⟨rfl,rfl⟩ rfl AV.le.dat
 have c4':¬ v=2:=by simpa using c4
 rw [show oddD d k v x l=l++List.replicate 17 d by unfold oddD;rw [if_neg c2',if_neg c3',if_neg c4']]
 refine ww ?_
 refine qAn (ι:=Nat×List Det) (fun x=>[(0,.ptr 0 0),(5,.bm 1 x.2.length),(6,.d (.int .i64 (k:Int))),(7,.d (.int .i64 (x.1:Int)))]) (fun x=>[.row (diceR L a2),.buf 2 x.2.length (flatAV (encDs x.2))])
  (fun x=>x.1≤17∧x.2=l++List.replicate x.1 d) (fun x=>17-x.1) (0,l) ⟨by simp,by simp⟩ ⟨.refl _,AV.le.eq (by rw [hll];rfl),.refl _,.refl _,trivial⟩ (by rw [hll];exact HLe.refl _) ?_
 rintro ⟨i,o⟩ ⟨h1,ho⟩
 simp only at h1 ho ⊢
 have h2:o[k]?=some d:=by rw [ho,List.getElem?_append_left hkl];exact hd
 have h3:o.length≤50+i:=by rw [ho];simp;omega
 have hol:=qBs o
 have hof:=encDs_flat o
 have hko:=(List.getElem?_eq_some_iff.1 h2).1
 have hwr:IntKind.i64.wrap ((i:Int)+1)=((i+1:Nat):Int):=by rw [qAe (by omega)];simp
 have hcut:=flatAV_cut (qCe o) (encDs_get h2)
 refine ww ?_
 refine qAa rfl (fun c5=>?_) (fun c5=>?_)
 ·have c5':i < 17:=by simp at c5;omega
  refine ww ?_
  refine qAd (qAc (qAr (sz:=2) hT rfl rfl rfl rfl (by omega))) rfl ?_
  refine qAd (bufLoadN (ti:=⟨.struct [(0,1,false),(1,1,false)],2,24,[.d (.int .i64 0),.d (.str [])]⟩) (cs:=[.d (.int .i64 d.tag),.d (.str d.text)]) hT rfl rfl rfl rfl rfl (by simp) (by simp;omega) (by rw [Int.toNat_natCast];exact hcut)) rfl ?_
  refine ww ?_
  refine qAd (bufApp_ok hT rfl rfl rfl rfl rfl rfl (by show (o.length+1)*(24+1)≤_;omega)) rfl ?_
  refine ww ?_
  have hfl:flatAV (encDs (o++[d]))=flatAV (encDs o)++flatAV [[.int .i64 d.tag,.str d.text]]:=by rw [encDs_append,qDe];rfl
  refine ⟨(i+1,o++[d]),⟨c5',by rw [ho,List.append_assoc];congr 1;rw [List.replicate_succ']⟩,by simp only;omega,⟨.refl _,AV.le.eq (by show AV.bm 1 (o.length+1)=_;rw [List.length_append];rfl),.refl _,.int hwr,trivial⟩,?_⟩
  rw [show (o++[d]).length=o.length+1 by simp,hfl]
  exact HLe.refl _
 ·have c5':i=17:=by simp at c5;omega
  subst c5'
  subst ho
  refine wwe ?_
  refine qBj 5 1 2 (encDs (l++List.replicate 17 d)) rfl rfl hol (RowDat_flat (qCe _)) rfl ?_
  refine ww ?_
  exact rq ⟨rfl,rfl⟩ rfl AV.le.dat
end Tdoc
/- Dice: infos. -/
set_option maxHeartbeats 8000000
set_option maxRecDepth 100000
set_option linter.unusedVariables false
set_option linter.unusedSimpArgs false
namespace Tdoc
open Go Go.Proofs
def InfMade (x:Inf):Prop:=(1≤x.ver∧x.ver≤255)∧(((x.proto=2∨x.proto=3)∧(0≤x.par∧x.par≤31)∧x.key=0∧x.kid=0)∨(x.proto=4∧x.par=0∧(0≤x.kid∧x.kid≤119)∧∃ n,x.key=pointG n)∨((x.proto=5∨x.proto=6)∧x.par=0∧x.key=0∧x.kid=0))
def InfB (y x:Inf):Prop:=y.proto < x.proto∨(y.proto=x.proto∧y.kid < x.kid)
def InfsM (l:List Inf):Prop:=(∀ x,x∈l→InfMade x)∧l.Pairwise InfB∧l.length≤7
def DInfsP (L:List Int) (x:List Inf×Nat):Prop:=InfsM x.1∧x.2≤L.length
theorem infs_snoc {l:List Inf} {x:Inf} {P:Inf→Prop} (h1:∀ y,y∈l→InfMade y∧P y) (hp:l.Pairwise InfB) (hb:∀ y,P y→InfB y x) (hx:InfMade x) {R:Inf→Prop} (hR:R x) (hPR:∀ y,P y→R y) :
  (∀ y,y∈l++[x]→InfMade y∧R y)∧(l++[x]).Pairwise InfB:=by
 refine ⟨fun y hy=>?_,?_⟩
 ·rcases List.mem_append.1 hy with hy | hy
  ·exact ⟨(h1 y hy).1,hPR y (h1 y hy).2⟩
  ·rw [List.mem_singleton.1 hy];exact ⟨hx,hR⟩
 ·rw [List.pairwise_append]
  exact ⟨hp,List.pairwise_singleton _ _,fun y hy z hz=>by rw [List.mem_singleton.1 hz];exact hb y (h1 y hy).2⟩
theorem DInfos_spec (L:List Int) (hL:L.length≤1000000) (a:Nat) (ha:a≤L.length) :
  Spec Tryz.prog 20 [.ptr 0 0] [.row (diceR L a)] (fun r h'=>∃ x,DInfsP L x∧r=.d (.sl 5 (encFs x.1))∧h'=[.row (diceR L x.2)]):=by
 have hN:=fun a ha n h1 hn=>qCs L hL a ha n h1 hn
 have hO:=fun a ha=>One_spec L hL a ha 2 (by omega) (by omega)
 refine qAb hT Tryz.func20 rfl rfl rfl rfl ?_;intro E hE
 refine qAo ?_
 refine wwe ?_
 refine qAt (qAk ?_)
 refine wws ?_
 refine qAt (qAk ?_)
 refine wws ?_
 refine qBa 3 5 1 (es:=[]) (.inr ⟨rfl,rfl⟩) rfl ?_
 refine ww ?_
 refine qCx (ι:=Nat×Nat×List Inf) (fun x=>[(0,.ptr 0 0),(3,.sl 5 (encFs x.2.2) (.right 1)),(4,.d (.int .i64 (x.1:Int)))]) (fun x=>[.row (diceR L x.2.1),.right 5 (encFs x.2.2).length])
  (fun x=>(2≤x.1∧x.1≤7)∧x.2.1≤L.length∧(∀ y,y∈x.2.2→InfMade y∧y.proto < (x.1:Int))∧x.2.2.Pairwise InfB∧x.2.2.length≤x.1-2+(if x.1≤4 then 0 else 2)) (fun x=>7-x.1) (2,a,[]) ⟨by omega,ha,by simp,by simp,by simp⟩ ⟨.refl _,.refl _,.refl _,trivial⟩ (HLe.refl _) ?_
 rintro ⟨p,b,out⟩ ⟨h0,h1,h2,h3,h4⟩
 simp only at h0 h1 h2 h3 h4 ⊢
 have hol:=qBh out
 have ho7:out.length≤7:=by revert h4;split <;> omega
 have hwp:IntKind.i64.wrap ((p:Int)+1)=((p+1:Nat):Int):=by rw [qAe (by omega)];omega
 have hmk:∀ x:Inf,encFs (out++[x])=encFs out++[encF x]:=fun x=>by rw [encFs_append];rfl
 have fin:∀ (b2:Nat) (o2:List Inf) (w:List (List Dat)) (junk:List AObj) (τ:Nat→AV),p≤6→b2≤L.length→(∀ y,y∈o2→InfMade y∧y.proto < ((p+1:Nat):Int))→o2.Pairwise InfB→o2.length≤p-1+(if p≤3 then 0 else 2)→encFs o2=w →
   AV.le (τ 0) (.ptr 0 0)→AV.le (τ 3) (.sl 5 w (.right 1))→AV.le (τ 4) (.d (.int .i64 (IntKind.i64.wrap ((p:Int)+1)))) →
   ∃ (y:Nat×Nat×List Inf) (junk':List AObj),((2≤y.1∧y.1≤7)∧y.2.1≤L.length∧(∀ z,z∈y.2.2→InfMade z∧z.proto < (y.1:Int))∧y.2.2.Pairwise InfB∧y.2.2.length≤y.1-2+(if y.1≤4 then 0 else 2))∧7-y.1 < 7-p∧SubL τ [(0,.ptr 0 0),(3,.sl 5 (encFs y.2.2) (.right 1)),(4,.d (.int .i64 (y.1:Int)))] ∧
    HLe ([.row (diceR L b2),.right 5 w.length]++junk) ([.row (diceR L y.2.1),.right 5 (encFs y.2.2).length]++junk')∧E.below [AObj.row (diceR L y.2.1),.right 5 (encFs y.2.2).length].length∧lowS [AObj.row (diceR L y.2.1),.right 5 (encFs y.2.2).length].length [(0,.ptr 0 0),(3,.sl 5 (encFs y.2.2) (.right 1)),(4,.d (.int .i64 (y.1:Int)))]=true∧lowH [AObj.row (diceR L y.2.1),.right 5 (encFs y.2.2).length].length [AObj.row (diceR L y.2.1),.right 5 (encFs y.2.2).length]=true:=by
  rintro b2 o2 w junk τ g1 g2 g3 g4 g5 rfl g7 g8 g9
  rw [hwp] at g9
  refine ⟨(p+1,b2,o2),junk,⟨by omega,g2,g3,g4,?_⟩,by simp only;omega,⟨g7,g8,g9,trivial⟩,HLe.refl _,Env.below_mono hE (by simp),rfl,rfl⟩
  simp only
  by_cases hp:p≤3
  ·rw [if_pos (by omega)];rw [if_pos hp] at g5;omega
  ·rw [if_neg (by omega)];rw [if_neg hp] at g5;omega
 refine ww ?_
 refine qAa rfl (fun c1=>?_) (fun c1=>?_)
 ·have c1':p≤6:=by simp at c1;omega
  have hlen1:out.length+1≤p-1+(if p≤3 then 0 else 2):=by
   revert h4
   by_cases hp:p≤3
   ·rw [if_pos (by omega),if_pos hp];omega
   ·rw [if_neg hp];split <;> omega
  have hout:∀ y,y∈out→InfMade y∧y.proto < ((p+1:Nat):Int):=fun y hy=>⟨(h2 y hy).1,by have:=(h2 y hy).2;omega⟩
  refine ww ?_
  refine qAv (callX rfl rfl (hO b h1) [0] (by decide) rfl rfl rfl rfl (fun _=>rfl) (fun _=>rfl) (fun _=>rfl)) rfl ?_
  rintro ⟨f,b2⟩ r1
  simp only at r1 ⊢
  refine ww ?_
  refine qAa rfl (fun c2=>?_) (fun c2=>?_)
  ·refine ww ?_
   exact fin b2 out _ [] _ c1' r1 hout h3 (by omega) rfl (.refl _) (.refl _) (.refl _)
  ·refine ww ?_
   refine qAv (callX rfl rfl (hN b2 r1 255 (by omega) (by omega)) [0] (by decide) rfl rfl rfl rfl (fun _=>rfl) (fun _=>rfl) (fun _=>rfl)) rfl ?_
   rintro ⟨v,b3⟩ ⟨q1,q2,q3⟩
   simp only at q1 q2 q3 ⊢
   have hwv:IntKind.i64.wrap (1+v)=1+v:=qAe (by omega)
   have hec:∀ y k d:Int,encF ⟨(p:Int),1+v,y,k,d⟩=[.int .i64 (p:Int),.int .i64 (IntKind.i64.wrap (1+v)),.int .i64 y,.int .i64 k,.int .i64 d]:=fun y k d=>by rw [hwv];rfl
   refine ww ?_
   refine qAa rfl (fun c3=>?_) (fun c3=>?_)
   ·have c3':p=2:=by simp at c3;omega
    refine ww ?_
    refine qAa rfl (fun c4=>?_) (fun c4=>?_)
    ·refine ww ?_
     refine qAv (callX rfl rfl (hN b3 q3 32 (by omega) (by omega)) [0] (by decide) rfl rfl rfl rfl (fun _=>rfl) (fun _=>rfl) (fun _=>rfl)) rfl ?_
     rintro ⟨y,b4⟩ ⟨u1,u2,u3⟩
     simp only at u1 u2 u3 ⊢
     refine ww ?_
     refine qAd (qAi (i:=1) hT rfl rfl rfl rfl rfl rfl (by show ((encFs out).length+1)*(40+1)≤_;first | omega | (simp only [qAj,qAp,List.length_append,List.length_cons,List.length_nil];omega))) rfl ?_
     refine ww ?_
     have hx:=infs_snoc (x:=⟨(p:Int),1+v,y,0,0⟩) (R:=fun z=>z.proto < ((p+1:Nat):Int)) h2 h3 (fun z hz=>.inl hz) ⟨⟨by simp only;omega,by simp only;omega⟩,.inl ⟨by simp only;omega,⟨u1,by simp only;omega⟩,rfl,rfl⟩⟩ (by simp only;omega) (fun z hz=>by omega)
     exact fin b4 (out++[⟨(p:Int),1+v,y,0,0⟩]) _ [_] _ c1' u3 hx.1 hx.2 (by rw [List.length_append];exact hlen1) (by rw [hmk,hec]) (.refl _) (.refl _) (.refl _)
    ·exact absurd c3 (by rw [c4];simp)
   have c3':¬ p=2:=by simp at c3;omega
   refine ww ?_
   refine qAa rfl (fun c4=>?_) (fun c4=>?_)
   ·have c4':p=3:=by simp at c4;omega
    refine ww ?_
    refine qAv (callX rfl rfl (hN b3 q3 32 (by omega) (by omega)) [0] (by decide) rfl rfl rfl rfl (fun _=>rfl) (fun _=>rfl) (fun _=>rfl)) rfl ?_
    rintro ⟨y,b4⟩ ⟨u1,u2,u3⟩
    simp only at u1 u2 u3 ⊢
    refine ww ?_
    refine qAd (qAi (i:=1) hT rfl rfl rfl rfl rfl rfl (by show ((encFs out).length+1)*(40+1)≤_;first | omega | (simp only [qAj,qAp,List.length_append,List.length_cons,List.length_nil];omega))) rfl ?_
    refine ww ?_
    have hx:=infs_snoc (x:=⟨(p:Int),1+v,y,0,0⟩) (R:=fun z=>z.proto < ((p+1:Nat):Int)) h2 h3 (fun z hz=>.inl hz) ⟨⟨by simp only;omega,by simp only;omega⟩,.inl ⟨by simp only;omega,⟨u1,by simp only;omega⟩,rfl,rfl⟩⟩ (by simp only;omega) (fun z hz=>by omega)
    exact fin b4 (out++[⟨(p:Int),1+v,y,0,0⟩]) _ [_] _ c1' u3 hx.1 hx.2 (by rw [List.length_append];exact hlen1) (by rw [hmk,hec]) (.refl _) (.refl _) (.refl _)
   have c4':¬ p=3:=by simp at c4;omega
   refine ww ?_
   refine qAa rfl (fun c5=>?_) (fun c5=>?_)
   ·have c5':p=4:=by simp at c5;omega
    subst c5'
    clear c3 c3' c4 c4' c5
    refine ww ?_
    refine qAv (callX rfl rfl (hN b3 q3 3 (by omega) (by omega)) [0] (by decide) rfl rfl rfl rfl (fun _=>rfl) (fun _=>rfl) (fun _=>rfl)) rfl ?_
    rintro ⟨i0,b4⟩ ⟨u1,u2,u3⟩
    simp only at u1 u2 u3 ⊢
    obtain ⟨i0,rfl⟩:∃ i:Nat,i0=(i:Int):=⟨i0.toNat,by omega⟩
    refine ww ?_
    refine qAn (ι:=Nat×Nat×List Inf×Int×Int) (fun x=>[(0,.ptr 0 0),(3,.sl 5 (encFs x.2.2.1) (.right 1)),(4,.d (.int .i64 ((4:Nat):Int))),(5,.ptr 2 0),(6,.d (.int .i64 (x.1:Int)))])
     (fun x=>[.row (diceR L x.2.1),.right 5 (encFs x.2.2.1).length,.row [.d (.int .i64 ((4:Nat):Int)),.d (.int .i64 (IntKind.i64.wrap (1+v))),.d (.int .i64 0),.d (.int .i64 x.2.2.2.1),.d (.int .i64 x.2.2.2.2)]])
     (fun x=>x.1≤3∧x.2.1≤L.length∧(∀ y,y∈x.2.2.1→InfMade y∧(y.proto < 4∨(y.proto=4∧y.kid < 40*((min x.1 2:Nat):Int))))∧x.2.2.1.Pairwise InfB∧x.2.2.1.length≤2+min x.1 2∧(x.1=3→(∃ n,x.2.2.2.1=pointG n)∧80≤x.2.2.2.2∧x.2.2.2.2≤119))
     (fun x=>3-x.1) (i0,b4,out,0,0) ⟨by simp only;omega,u3,fun y hy=>⟨(h2 y hy).1,.inl (h2 y hy).2⟩,h3,by simp at h4;simp only;omega,fun h=>by simp only at h;omega⟩ ⟨.refl _,.refl _,.refl _,.refl _,.refl _,trivial⟩ (HLe.refl _) ?_
    rintro ⟨i,c,o,key,kid⟩ ⟨g1,g2,g3,g4,g5,g6⟩
    simp only at g1 g2 g3 g4 g5 g6 ⊢
    have hol:=qBh o
    have hmko:∀ x:Inf,encFs (o++[x])=encFs o++[encF x]:=fun x=>by rw [encFs_append];rfl
    have hwi:IntKind.i64.wrap ((i:Int)+1)=((i+1:Nat):Int):=by rw [qAe (by omega)];omega
    refine ww ?_
    refine qAa rfl (fun d1=>?_) (fun d1=>?_)
    ·have d1':i < 3:=by simp at d1;omega
     refine ww ?_
     refine qAv (callX rfl rfl (hN c g2 1073741824 (by omega) (by omega)) [0] (by decide) rfl rfl rfl rfl (fun _=>rfl) (fun _=>rfl) (fun _=>rfl)) rfl ?_
     rintro ⟨m,c2⟩ ⟨v1,v2,v3⟩
     simp only at v1 v2 v3 ⊢
     have hP:=Point_spec m
     refine ww ?_
     refine wwc hP ?_
     refine ww ?_
     refine qAv (callX rfl rfl (hN c2 v3 40 (by omega) (by omega)) [0] (by decide) rfl rfl rfl rfl (fun _=>rfl) (fun _=>rfl) (fun _=>rfl)) rfl ?_
     rintro ⟨k,c3⟩ ⟨w1,w2,w3⟩
     simp only at w1 w2 w3 ⊢
     refine ww ?_
     have hkd:IntKind.i64.wrap (IntKind.i64.wrap (40*(i:Int))+k)=40*(i:Int)+k:=by rw [qAe (n:=40*(i:Int)) (by omega),qAe (by omega)]
     generalize IntKind.i64.wrap (IntKind.i64.wrap (40*(i:Int))+k)=kd at hkd ⊢
     refine qAa rfl (fun d2=>?_) (fun d2=>?_)
     ·have d2':i < 2:=by simp at d2;omega
      refine ww ?_
      refine qAd (qAi (i:=1) hT rfl rfl rfl rfl rfl rfl (by show ((encFs o).length+1)*(40+1)≤_;first | omega | (simp only [qAj,qAp,List.length_append,List.length_cons,List.length_nil];omega))) rfl ?_
      refine ww ?_
      have hx:=infs_snoc (x:=⟨((4:Nat):Int),1+v,0,pointG m,kd⟩) (R:=fun z=>z.proto < 4∨(z.proto=4∧z.kid < 40*((min (i+1) 2:Nat):Int))) g3 g4 (fun z hz=>by rcases hz with hz | hz;exact .inl hz;exact .inr ⟨hz.1,by have:=hz.2;simp only;omega⟩) ⟨⟨by simp only;omega,by simp only;omega⟩,.inr (.inl ⟨rfl,rfl,⟨by simp only;omega,by simp only;omega⟩,m,rfl⟩)⟩ (.inr ⟨rfl,by simp only;omega⟩) (fun z hz=>by rcases hz with hz | hz;exact .inl hz;exact .inr ⟨hz.1,by omega⟩)
      exact ⟨(i+1,c3,o++[⟨((4:Nat):Int),1+v,0,pointG m,kd⟩],pointG m,kd),⟨by simp only;omega,w3,hx.1,hx.2,by simp only [List.length_append,List.length_singleton];omega,fun h=>by simp only at h;omega⟩,by simp only;omega,⟨.refl _,AV.le.eq (by rw [hmko,hec];rfl),.refl _,.refl _,.int hwi,trivial⟩,⟨ObLe.refl _,⟨rfl,by rw [hmko,hec]⟩,ObLe.refl _,trivial⟩⟩
     ·have d2':i=2:=by simp at d2;omega
      subst d2'
      refine ww ?_
      exact ⟨(3,c3,o,pointG m,kd),⟨by simp,w3,g3,g4,g5,fun _=>⟨⟨m,rfl⟩,by simp only;omega,by simp only;omega⟩⟩,by simp,⟨.refl _,.refl _,.refl _,.refl _,.int hwi,trivial⟩,HLe.refl _⟩
    ·have d1':i=3:=by simp at d1;omega
     subst d1'
     obtain ⟨⟨m,rfl⟩,k1,k2⟩:=g6 rfl
     refine ww ?_
     refine qAd (qAi (i:=1) hT rfl rfl rfl rfl rfl rfl (by show ((encFs o).length+1)*(40+1)≤_;first | omega | (simp only [qAj,qAp,List.length_append,List.length_cons,List.length_nil];omega))) rfl ?_
     refine ww ?_
     have hx:=infs_snoc (x:=⟨((4:Nat):Int),1+v,0,pointG m,kid⟩) (R:=fun z=>z.proto < ((4+1:Nat):Int)) g3 g4 (fun z hz=>by rcases hz with hz | hz;exact .inl hz;exact .inr ⟨hz.1,by have:=hz.2;simp only;omega⟩) ⟨⟨by simp only;omega,by simp only;omega⟩,.inr (.inl ⟨rfl,rfl,⟨by simp only;omega,by simp only;omega⟩,m,rfl⟩)⟩ (by simp only;omega) (fun z hz=>by omega)
     exact fin c (o++[⟨((4:Nat):Int),1+v,0,pointG m,kid⟩]) _ [_] _ c1' g2 hx.1 hx.2 (by rw [List.length_append];simp at g5 ⊢;omega) (by rw [hmko,hec]) (.refl _) (.refl _) (.refl _)
   have c5':¬ p=4:=by simp at c5;omega
   refine ww ?_
   refine qAd (qAi (i:=1) hT rfl rfl rfl rfl rfl rfl (by show ((encFs out).length+1)*(40+1)≤_;first | omega | (simp only [qAj,qAp,List.length_append,List.length_cons,List.length_nil];omega))) rfl ?_
   refine ww ?_
   have hx:=infs_snoc (x:=⟨(p:Int),1+v,0,0,0⟩) (R:=fun z=>z.proto < ((p+1:Nat):Int)) h2 h3 (fun z hz=>.inl hz) ⟨⟨by simp only;omega,by simp only;omega⟩,.inr (.inr ⟨by simp only;omega,rfl,rfl,rfl⟩)⟩ (by simp only;omega) (fun z hz=>by omega)
   exact fin b3 (out++[⟨(p:Int),1+v,0,0,0⟩]) _ [_] _ c1' q3 hx.1 hx.2 (by rw [List.length_append];exact hlen1) (by rw [hmk,hec]) (.refl _) (.refl _) (.refl _)
 ·have c1':p=7:=by simp at c1;omega
  subst c1'
  refine ww ?_
  exact ret_q ⟨(out,b),⟨⟨fun x hx=>(h2 x hx).1,h3,ho7⟩,h1⟩,rfl,rfl⟩ rfl .dat rfl rfl rfl rfl
end Tdoc
/- Plain: a file written with other forms of lengths has the same group and objects. -/
set_option linter.unusedVariables false
set_option linter.unusedSimpArgs false
namespace Tdoc
open Go Go.Proofs
def FileM (b:List UInt8):Prop:=b=[]∨∃ (n:Int) (k:List Node),1≤n∧n≤16∧b=(wrapG n k).1
theorem encodeP_nil {l:List Node} (h:(encodeP l).1≠[]):(encodeP l).1=wrL l∧(wrL l).length≤4096:=by
 unfold encodeP at h ⊢
 split at h
 ·exact absurd rfl h
 split at h
 ·exact absurd rfl h
 split at h
 ·exact absurd rfl h
 rename_i h1 h2 h3
 rw [if_neg h1,if_neg h2,if_neg h3]
 exact ⟨rfl,by omega⟩
end Tdoc
/- Dice: the file of a group. -/
set_option linter.unusedVariables false
set_option linter.unusedSimpArgs false
namespace Tdoc
open Go Go.Proofs
def FileW (b:List UInt8):Prop:=b=[]∨∃ (n:Int) (k:List Node),b=(wrapG n k).1
theorem FileW.short {b:List UInt8} (h:FileW b):b.length≤4096:=by
 rcases h with rfl | ⟨n,k,rfl⟩
 ·simp
 ·by_cases h0:(wrapG n k).1=[]
  ·rw [h0];simp
  ·unfold wrapG at h0 ⊢
   split
   ·simp
   ·rename_i ht
    rw [if_neg ht] at h0
    have:=encodeP_nil h0
    rw [this.1];exact this.2
theorem wrapM {n:Int} {k:List Node} (h1:1≤n) (h2:n≤16):FileM (wrapG n k).1:=.inr ⟨n,k,h1,h2,rfl⟩
theorem zoneM (z:Zon):FileM (zoneF z).1:=by
 unfold zoneF;split
 ·exact .inl rfl
 ·exact wrapM (by omega) (by omega)
theorem bioM {n:Int} (l:List Tpl):FileM (bioF n l).1:=by
 unfold bioF;split
 ·exact .inl rfl
 split
 ·exact .inl rfl
 split
 ·exact .inl rfl
 ·exact wrapM (by omega) (by omega)
theorem detM {n:Int} (l:List Det):FileM (detF n l).1:=by
 unfold detF;split
 ·exact .inl rfl
 split
 ·exact .inl rfl
 split
 ·exact .inl rfl
 ·rename_i h _ _
  exact wrapM (by omega) (by omega)
theorem infosM (l:List Inf):FileM (infosF l).1:=by
 unfold infosF;split
 ·exact .inl rfl
 ·exact wrapM (by omega) (by omega)
theorem FileM.w {b:List UInt8} (h:FileM b):FileW b:=by
 rcases h with h | ⟨n,k,_,_,h⟩
 ·exact .inl h
 ·exact .inr ⟨n,k,h⟩
end Tdoc
/- Dice: odd infos. -/
set_option maxHeartbeats 8000000
set_option maxRecDepth 100000
set_option linter.unusedVariables false
set_option linter.unusedSimpArgs false
namespace Tdoc
open Go Go.Proofs
theorem qBp (l:List Inf):∀ e,e∈encFs l→e.length=5:=fun e he=>by
 obtain ⟨x,_,rfl⟩:=List.mem_map.1 he;rfl
theorem encFs_get {l:List Inf} {k:Nat} {d:Inf} (h:l[k]?=some d):(encFs l)[k]?=some (encF d):=by unfold encFs;rw [List.getElem?_map,h];rfl
theorem encFs_set (l:List Inf) (k:Nat) (d:Inf):(encFs l).set k (encF d)=encFs (l.set k d):=by unfold encFs;rw [List.map_set]
theorem encFs_flat (l:List Inf):(flatAV (encFs l)).length=l.length*5:=by rw [qDd (qBp l),qBh]
def KeyR (l:List Inf):Prop:=∀ x,x∈l→0≤x.key∧x.key < 4611686018427387904
theorem KeyR.ok {l:List Inf} (h:KeyR l):∀ x,x∈l→KeyOk x:=fun x hx _=>h x hx
theorem KeyR.set {l:List Inf} (h:KeyR l) {k:Nat} {d:Inf} (hd:0≤d.key∧d.key < 4611686018427387904):KeyR (l.set k d):=fun x hx=>by
 rcases List.mem_or_eq_of_mem_set hx with hx | rfl
 ·exact h x hx
 ·exact hd
theorem KeyR.app {l m:List Inf} (h:KeyR l) (h2:KeyR m):KeyR (l++m):=fun x hx=>by
 rcases List.mem_append.1 hx with hx | hx
 ·exact h x hx
 ·exact h2 x hx
theorem InfsM.keyR {l:List Inf} (h:InfsM l):KeyR l:=fun x hx=>by
 obtain ⟨_,⟨_,_,h1,_⟩ | ⟨_,_,_,n,h1⟩ | ⟨_,_,h1,_⟩⟩:=h.1 x hx
 ·omega
 ·have:=pointG_range n;rw [h1];omega
 ·omega
def oddI (d:Inf) (k:Nat) (v:Int) (x:Int→Int) (l:List Inf):List Inf :=
 if v=0 then l.set k ⟨x 8,d.ver,d.par,d.key,d.kid⟩
 else if v=1 then l.set k ⟨d.proto,pkI [0,255,256] (x 3),d.par,d.key,d.kid⟩
 else if v=2 then l.set k ⟨d.proto,d.ver,pkI [-1,31,32] (x 3),d.key,d.kid⟩
 else if v=3 then l.set k ⟨d.proto,d.ver,d.par,pkI [0,1,4,2147483575] (x 4),d.kid⟩
 else if v=4 then l.set k ⟨d.proto,d.ver,d.par,d.key,pkI [-1,255,256] (x 3)⟩
 else if v=5 then l++[d]
 else l++List.replicate 18 d
theorem pkI_key (x:Int):0≤pkI [0,1,4,2147483575] x∧pkI [0,1,4,2147483575] x < 4611686018427387904:=by
 rcases Nat.lt_or_ge x.toNat 4 with h | h
 ·have hm:pkI [0,1,4,2147483575] x∈[0,1,4,2147483575]:=by
   have:pkI [0,1,4,2147483575] x=[0,1,4,2147483575][x.toNat]'h:=by simp [pkI,h]
   rw [this];exact List.getElem_mem h
  generalize pkI [0,1,4,2147483575] x=y at hm ⊢
  simp at hm;omega
 ·have:pkI [0,1,4,2147483575] x=0:=by unfold pkI;rw [List.getD_eq_getElem?_getD,List.getElem?_eq_none h];rfl
  rw [this];decide
theorem oddI_ok (d:Inf) (hd:0≤d.key∧d.key < 4611686018427387904) (k:Nat) (v:Int) (x:Int→Int) {l:List Inf} (hK:KeyR l):KeyR (oddI d k v x l)∧(oddI d k v x l).length≤l.length+18:=by
 unfold oddI
 by_cases h0:v=0
 ·rw [if_pos h0];exact ⟨hK.set hd,by simp⟩
 rw [if_neg h0]
 by_cases h1:v=1
 ·rw [if_pos h1];exact ⟨hK.set hd,by simp⟩
 rw [if_neg h1]
 by_cases h2:v=2
 ·rw [if_pos h2];exact ⟨hK.set hd,by simp⟩
 rw [if_neg h2]
 by_cases h3:v=3
 ·rw [if_pos h3];exact ⟨hK.set (pkI_key _),by simp⟩
 rw [if_neg h3]
 by_cases h4:v=4
 ·rw [if_pos h4];exact ⟨hK.set hd,by simp⟩
 rw [if_neg h4]
 by_cases h5:v=5
 ·rw [if_pos h5];exact ⟨hK.app fun y hy=>by rw [List.mem_singleton.1 hy];exact hd,by simp⟩
 rw [if_neg h5];exact ⟨hK.app fun y hy=>by rw [List.eq_of_mem_replicate hy];exact hd,by simp⟩
def oddIF (L:List Int) (a:Nat) (l:List Inf):List Inf×Nat :=
 if l=[] then ([⟨nxV L a 8,1,0,0,0⟩],nxA L a)
 else (oddI (l.getD (nxV L a (l.length:Int)).toNat ⟨0,0,0,0,0⟩) (nxV L a (l.length:Int)).toNat (nxV L (nxA L a) 7) (nxV L (nxA L (nxA L a))) l,if nxV L (nxA L a) 7≤4 then nxA L (nxA L (nxA L a)) else nxA L (nxA L a))
theorem getD_key {l:List Inf} (hK:KeyR l) (k:Nat):0≤(l.getD k ⟨0,0,0,0,0⟩).key∧(l.getD k ⟨0,0,0,0,0⟩).key < 4611686018427387904:=by
 rcases Nat.lt_or_ge k l.length with h | h
 ·rw [show l.getD k ⟨0,0,0,0,0⟩=l[k] by simp [h]];exact hK _ (List.getElem_mem h)
 ·rw [show l.getD k ⟨0,0,0,0,0⟩=⟨0,0,0,0,0⟩ by rw [List.getD_eq_getElem?_getD,List.getElem?_eq_none h];rfl];decide
theorem oddIF_ok {L:List Int} {a:Nat} (ha:a≤L.length) {l:List Inf} (hK:KeyR l):KeyR (oddIF L a l).1∧(oddIF L a l).1.length≤l.length+18∧(oddIF L a l).2≤L.length:=by
 unfold oddIF
 by_cases h0:l=[]
 ·rw [if_pos h0];exact ⟨fun y hy=>by rw [List.mem_singleton.1 hy];simp,by simp,qCq ha⟩
 rw [if_neg h0]
 have h1:=oddI_ok _ (getD_key hK (nxV L a (l.length:Int)).toNat) (nxV L a (l.length:Int)).toNat (nxV L (nxA L a) 7) (nxV L (nxA L (nxA L a))) hK
 refine ⟨h1.1,h1.2,?_⟩
 simp only
 split
 ·exact qCq (qCq (qCq ha))
 ·exact qCq (qCq ha)
theorem OddInfos_spec (L:List Int) (hL:L.length≤1000000) (a:Nat) (ha:a≤L.length) (l:List Inf) (hl:l.length≤50) :
  Spec Tryz.prog 25 [.ptr 0 0,.d (.sl 5 (encFs l))] [.row (diceR L a)] (fun r h'=>r=.d (.sl 5 (encFs (oddIF L a l).1))∧h'=[.row (diceR L (oddIF L a l).2)]):=by
 have hll:=qBh l
 by_cases h0:l=[]
 ·obtain ⟨x,a1,e1,e2,g1,hx,hN⟩:=qCa L hL a ha
  unfold oddIF
  rw [if_pos h0,e1,e2]
  clear e1 e2
  subst h0
  have hD:=hN 8 (by omega) (by omega)
  refine qAb hT Tryz.func25 rfl rfl rfl rfl ?_;intro E hE
  refine qAo ?_
  refine ww ?_
  refine qAd (bufApp0_ok (i:=1) hT rfl rfl rfl (.inr rfl) (by intro h;cases h) rfl rfl (by show (encFs []).length*(40+1)≤_;omega)) rfl ?_
  refine ww ?_
  refine qAa rfl (fun c1=>?_) (fun c1=>?_)
  case refine_2=>exact absurd c1 (by decide)
  refine ww ?_
  refine qAd (callS1 (H':=[.row (diceR L a1),.buf 5 (encFs []).length (flatAV (encFs []))]) rfl rfl hD [0] (by decide) rfl rfl rfl rfl rfl rfl rfl) rfl ?_
  refine ww ?_
  exact rq ⟨rfl,rfl⟩ rfl AV.le.dat
 obtain ⟨m',a1,e1,e2,g1,hm',hN⟩:=qCa L hL a ha
 obtain ⟨v',a2,e3,e4,g2,hv',hN2⟩:=qCa L hL a1 g1
 obtain ⟨x,a3,e5,e6,g3,hx,hN3⟩:=qCa L hL a2 g2
 have hpos:0 < l.length:=List.length_pos_iff.2 h0
 unfold oddIF
 rw [if_neg h0,e1,e2,e3,e4,e5,e6]
 clear e1 e2 e3 e4 e5 e6
 have hN1:=hN (l.length:Int) (by omega) (by omega)
 have hv1:=hm' (l.length:Int) (by omega)
 obtain ⟨k,hk⟩:∃ k:Nat,m' (l.length:Int)=(k:Int):=⟨(m' (l.length:Int)).toNat,by omega⟩
 rw [hk] at hN1 hv1 ⊢
 rw [Int.toNat_natCast]
 have hkl:k < l.length:=by omega
 obtain ⟨⟨proto,ver,par,key,kid⟩,hd⟩:∃ d,l[k]?=some d:=⟨l[k],by simp [hkl]⟩
 rw [show l.getD k ⟨0,0,0,0,0⟩=⟨proto,ver,par,key,kid⟩ by simp [hd]]
 have hN2:=hN2 7 (by omega) (by omega)
 have hv7:=hv' 7 (by omega)
 generalize v' 7=v at hN2 hv7 ⊢
 clear hv' hm'
 have hN1:Spec Tryz.prog 12 [.ptr 0 0,.d (.int .i64 ((encFs l).length:Int))] [.row (diceR L a)] (fun r h'=>r=.d (.int .i64 (k:Int))∧h'=[.row (diceR L a1)]):=by rw [hll];exact hN1
 have hfl:=encFs_flat l
 refine qAb hT Tryz.func25 rfl rfl rfl rfl ?_;intro E hE
 refine qAo ?_
 refine ww ?_
 refine qAd (bufApp0_ok (i:=1) hT rfl rfl rfl (.inr rfl) (by intro h;cases h) rfl rfl (by show (encFs l).length*(40+1)≤_;omega)) rfl ?_
 refine ww ?_
 refine qAa rfl (fun c1=>?_) (fun c1=>?_)
 ·exact absurd c1 (by rw [hll];simp;omega)
 refine ww ?_
 refine qAd (callS1 (H':=[.row (diceR L a1),.buf 5 (encFs l).length (flatAV (encFs l))]) rfl rfl hN1 [0] (by decide) rfl rfl rfl rfl rfl rfl rfl) rfl ?_
 refine ww ?_
 refine qAd (callS1 (H':=[.row (diceR L a2),.buf 5 (encFs l).length (flatAV (encFs l))]) rfl rfl hN2 [0] (by decide) rfl rfl rfl rfl rfl rfl rfl) rfl ?_
 refine ww ?_
 refine qAa rfl (fun d0=>?_) (fun d0=>?_)
 ·have d0':v=0:=by simpa using d0
  have hD:=hN3 8 (by omega) (by omega)
  rw [show oddI ⟨proto,ver,par,key,kid⟩ k v x l=l.set k ⟨(x 8),ver,par,key,kid⟩ by unfold oddI;rw [if_pos d0'],if_pos (show v≤4 by omega)]
  generalize x 8=w at hD ⊢
  have hset:=flatAV_set (j:=0) (.int .i64 w) (by omega) (qBp l) (encFs_get hd)
  refine ww ?_
  refine qAd (callS1 (H':=[.row (diceR L a3),.buf 5 (encFs l).length (flatAV (encFs l))]) rfl rfl hD [0] (by decide) rfl rfl rfl rfl rfl rfl rfl) rfl ?_
  refine ww ?_
  refine qAd (qAc (qAr (sz:=5) hT rfl rfl rfl rfl (by omega))) rfl ?_
  refine qAd (qCl hT rfl rfl rfl rfl rfl) rfl ?_
  refine AWk_op0 (bufStoreE hT rfl rfl rfl rfl rfl rfl rfl (by simp;omega) rfl) rfl ?_
  refine wws ?_
  refine qBj 5 1 5 (encFs (l.set k ⟨w,ver,par,key,kid⟩)) rfl rfl (by rw [qBh,List.length_set,hll]) (RowDat_eq (qBp _) (by rw [Int.toNat_natCast];refine hset.trans ?_;rw [← encFs_set];rfl)) rfl ?_
  refine ww ?_
  exact rq ⟨rfl,rfl⟩ rfl AV.le.dat
 have d0':¬ v=0:=by simpa using d0
 refine ww ?_
 refine qAa rfl (fun d1=>?_) (fun d1=>?_)
 ·have d1':v=1:=by simpa using d1
  have hxn:=hx 3 (by omega)
  have hat:=pkI_at (T:=[0,255,256]) hxn
  have hD:=hN3 3 (by omega) (by omega)
  rw [show oddI ⟨proto,ver,par,key,kid⟩ k v x l=l.set k ⟨proto,(pkI [0,255,256] (x 3)),par,key,kid⟩ by unfold oddI;rw [if_neg d0',if_pos d1'],if_pos (show v≤4 by omega)]
  generalize pkI [0,255,256] (x 3)=w at hat ⊢
  have hset:=flatAV_set (j:=1) (.int .i64 w) (by omega) (qBp l) (encFs_get hd)
  refine ww ?_
  refine qAd (callS1 (H':=[.row (diceR L a3),.buf 5 (encFs l).length (flatAV (encFs l))]) rfl rfl hD [0] (by decide) rfl rfl rfl rfl rfl rfl rfl) rfl ?_
  refine ww ?_
  refine wwi hat ?_
  refine ww ?_
  refine qAd (qAc (qAr (sz:=5) hT rfl rfl rfl rfl (by omega))) rfl ?_
  refine qAd (qCl hT rfl rfl rfl rfl rfl) rfl ?_
  refine AWk_op0 (bufStoreE hT rfl rfl rfl rfl rfl rfl rfl (by simp;omega) rfl) rfl ?_
  refine wws ?_
  refine qBj 5 1 5 (encFs (l.set k ⟨proto,w,par,key,kid⟩)) rfl rfl (by rw [qBh,List.length_set,hll]) (RowDat_eq (qBp _) (by rw [Int.toNat_natCast];refine hset.trans ?_;rw [← encFs_set];rfl)) rfl ?_
  refine ww ?_
  exact rq ⟨rfl,rfl⟩ rfl AV.le.dat
 have d1':¬ v=1:=by simpa using d1
 refine ww ?_
 refine qAa rfl (fun d2=>?_) (fun d2=>?_)
 ·have d2':v=2:=by simpa using d2
  have hxn:=hx 3 (by omega)
  have hat:=pkI_at (T:=[-1,31,32]) hxn
  have hD:=hN3 3 (by omega) (by omega)
  rw [show oddI ⟨proto,ver,par,key,kid⟩ k v x l=l.set k ⟨proto,ver,(pkI [-1,31,32] (x 3)),key,kid⟩ by unfold oddI;rw [if_neg d0',if_neg d1',if_pos d2'],if_pos (show v≤4 by omega)]
  generalize pkI [-1,31,32] (x 3)=w at hat ⊢
  have hset:=flatAV_set (j:=2) (.int .i64 w) (by omega) (qBp l) (encFs_get hd)
  refine ww ?_
  refine qAd (callS1 (H':=[.row (diceR L a3),.buf 5 (encFs l).length (flatAV (encFs l))]) rfl rfl hD [0] (by decide) rfl rfl rfl rfl rfl rfl rfl) rfl ?_
  refine ww ?_
  refine wwi hat ?_
  refine ww ?_
  refine qAd (qAc (qAr (sz:=5) hT rfl rfl rfl rfl (by omega))) rfl ?_
  refine qAd (qCl hT rfl rfl rfl rfl rfl) rfl ?_
  refine AWk_op0 (bufStoreE hT rfl rfl rfl rfl rfl rfl rfl (by simp;omega) rfl) rfl ?_
  refine wws ?_
  refine qBj 5 1 5 (encFs (l.set k ⟨proto,ver,w,key,kid⟩)) rfl rfl (by rw [qBh,List.length_set,hll]) (RowDat_eq (qBp _) (by rw [Int.toNat_natCast];refine hset.trans ?_;rw [← encFs_set];rfl)) rfl ?_
  refine ww ?_
  exact rq ⟨rfl,rfl⟩ rfl AV.le.dat
 have d2':¬ v=2:=by simpa using d2
 refine ww ?_
 refine qAa rfl (fun d3=>?_) (fun d3=>?_)
 ·have d3':v=3:=by simpa using d3
  have hxn:=hx 4 (by omega)
  have hat:=pkI_at (T:=[0,1,4,2147483575]) hxn
  have hD:=hN3 4 (by omega) (by omega)
  rw [show oddI ⟨proto,ver,par,key,kid⟩ k v x l=l.set k ⟨proto,ver,par,(pkI [0,1,4,2147483575] (x 4)),kid⟩ by unfold oddI;rw [if_neg d0',if_neg d1',if_neg d2',if_pos d3'],if_pos (show v≤4 by omega)]
  generalize pkI [0,1,4,2147483575] (x 4)=w at hat ⊢
  have hset:=flatAV_set (j:=3) (.int .i64 w) (by omega) (qBp l) (encFs_get hd)
  refine ww ?_
  refine qAd (callS1 (H':=[.row (diceR L a3),.buf 5 (encFs l).length (flatAV (encFs l))]) rfl rfl hD [0] (by decide) rfl rfl rfl rfl rfl rfl rfl) rfl ?_
  refine ww ?_
  refine wwi hat ?_
  refine ww ?_
  refine qAd (qAc (qAr (sz:=5) hT rfl rfl rfl rfl (by omega))) rfl ?_
  refine qAd (qCl hT rfl rfl rfl rfl rfl) rfl ?_
  refine AWk_op0 (bufStoreE hT rfl rfl rfl rfl rfl rfl rfl (by simp;omega) rfl) rfl ?_
  refine wws ?_
  refine qBj 5 1 5 (encFs (l.set k ⟨proto,ver,par,w,kid⟩)) rfl rfl (by rw [qBh,List.length_set,hll]) (RowDat_eq (qBp _) (by rw [Int.toNat_natCast];refine hset.trans ?_;rw [← encFs_set];rfl)) rfl ?_
  refine ww ?_
  exact rq ⟨rfl,rfl⟩ rfl AV.le.dat
 have d3':¬ v=3:=by simpa using d3
 refine ww ?_
 refine qAa rfl (fun d4=>?_) (fun d4=>?_)
 ·have d4':v=4:=by simpa using d4
  have hxn:=hx 3 (by omega)
  have hat:=pkI_at (T:=[-1,255,256]) hxn
  have hD:=hN3 3 (by omega) (by omega)
  rw [show oddI ⟨proto,ver,par,key,kid⟩ k v x l=l.set k ⟨proto,ver,par,key,(pkI [-1,255,256] (x 3))⟩ by unfold oddI;rw [if_neg d0',if_neg d1',if_neg d2',if_neg d3',if_pos d4'],if_pos (show v≤4 by omega)]
  generalize pkI [-1,255,256] (x 3)=w at hat ⊢
  have hset:=flatAV_set (j:=4) (.int .i64 w) (by omega) (qBp l) (encFs_get hd)
  refine ww ?_
  refine qAd (callS1 (H':=[.row (diceR L a3),.buf 5 (encFs l).length (flatAV (encFs l))]) rfl rfl hD [0] (by decide) rfl rfl rfl rfl rfl rfl rfl) rfl ?_
  refine ww ?_
  refine wwi hat ?_
  refine ww ?_
  refine qAd (qAc (qAr (sz:=5) hT rfl rfl rfl rfl (by omega))) rfl ?_
  refine qAd (qCl hT rfl rfl rfl rfl rfl) rfl ?_
  refine AWk_op0 (bufStoreE hT rfl rfl rfl rfl rfl rfl rfl (by simp;omega) rfl) rfl ?_
  refine wws ?_
  refine qBj 5 1 5 (encFs (l.set k ⟨proto,ver,par,key,w⟩)) rfl rfl (by rw [qBh,List.length_set,hll]) (RowDat_eq (qBp _) (by rw [Int.toNat_natCast];refine hset.trans ?_;rw [← encFs_set];rfl)) rfl ?_
  refine ww ?_
  exact rq ⟨rfl,rfl⟩ rfl AV.le.dat
 have d4':¬ v=4:=by simpa using d4
 refine ww ?_
 have hcut:=flatAV_cut (qBp l) (encFs_get hd)
 rw [if_neg (show ¬ v≤4 by omega)]
 refine qAa rfl (fun d5=>?_) (fun d5=>?_)
 ·have d5':v=5:=by simpa using d5
  rw [show oddI ⟨proto,ver,par,key,kid⟩ k v x l=l++[⟨proto,ver,par,key,kid⟩] by unfold oddI;rw [if_neg d0',if_neg d1',if_neg d2',if_neg d3',if_neg d4',if_pos d5']]
  refine ww ?_
  refine qAd (qAc (qAr (sz:=5) hT rfl rfl rfl rfl (by omega))) rfl ?_
  refine qAd (bufLoadN (cs:=[.d (.int .i64 proto),.d (.int .i64 ver),.d (.int .i64 par),.d (.int .i64 key),.d (.int .i64 kid)]) hT rfl rfl rfl rfl rfl (by decide) (by show _+5≤_;simp;omega) (by rw [Int.toNat_natCast];exact hcut)) rfl ?_
  refine ww ?_
  refine qAd (bufApp_ok hT rfl rfl rfl rfl rfl rfl (by show ((encFs l).length+1)*(40+1)≤_;omega)) rfl ?_
  refine wws ?_
  refine qBj 5 1 5 (encFs (l++[⟨proto,ver,par,key,kid⟩])) rfl rfl (by rw [qBh,List.length_append,hll];rfl) (RowDat_eq (qBp _) (by rw [encFs_append,qDe];rfl)) rfl ?_
  refine ww ?_
  exact rq ⟨rfl,rfl⟩ rfl AV.le.dat
 have d5':¬ v=5:=by simpa using d5
 rw [show oddI ⟨proto,ver,par,key,kid⟩ k v x l=l++List.replicate 18 ⟨proto,ver,par,key,kid⟩ by unfold oddI;rw [if_neg d0',if_neg d1',if_neg d2',if_neg d3',if_neg d4',if_neg d5']]
 refine ww ?_
 refine qAn (ι:=Nat×List Inf) (fun x=>[(0,.ptr 0 0),(5,.bm 1 x.2.length),(6,.d (.int .i64 (k:Int))),(7,.d (.int .i64 (x.1:Int)))]) (fun x=>[.row (diceR L a2),.buf 5 x.2.length (flatAV (encFs x.2))])
  (fun x=>x.1≤9∧x.2=l++List.replicate (2*x.1) ⟨proto,ver,par,key,kid⟩) (fun x=>9-x.1) (0,l) ⟨by simp,by simp⟩ ⟨.refl _,AV.le.eq (by rw [hll];rfl),.refl _,.refl _,trivial⟩ (by rw [hll];exact HLe.refl _) ?_
 rintro ⟨i,o⟩ ⟨h1,ho⟩
 simp only at h1 ho ⊢
 have h2:o[k]?=some ⟨proto,ver,par,key,kid⟩:=by rw [ho,List.getElem?_append_left hkl];exact hd
 have h3:o.length≤50+2*i:=by rw [ho];simp;omega
 have hol:=qBh o
 have hof:=encFs_flat o
 have hko:=(List.getElem?_eq_some_iff.1 h2).1
 have hwr:IntKind.i64.wrap ((i:Int)+1)=((i+1:Nat):Int):=by rw [qAe (by omega)];simp
 have hcut:=flatAV_cut (qBp o) (encFs_get h2)
 refine ww ?_
 refine qAa rfl (fun c5=>?_) (fun c5=>?_)
 ·have c5':i < 9:=by simp at c5;omega
  refine wwn ?_
  refine AW_drawT (fun i=>bif Nat.beq i 4 then [1] else bif Nat.beq i 8 then [1] else bif Nat.beq i 10 then [1] else []) (fun i=>bif Nat.beq i 10 then [1] else []) mixed (by kernel_rfl) ?_
  refine wwg ?_
  refine qBw (qAr (sz:=5) hT rfl rfl rfl rfl (by omega)) rfl rfl ?_
  refine qAq (v:=.agg [.d (.int .i64 proto),.d (.int .i64 ver),.d (.int .i64 par),.d (.int .i64 key),.d (.int .i64 kid)]) (os:=[]) (fun kk hk1 hk2=>bufLoadN (cells:=flatAV (encFs o)) hT rfl rfl (hk2 1 List.mem_cons_self) rfl rfl (by decide) (by show _+5≤_;simp;omega) (by rw [Int.toNat_natCast];exact hcut)) rfl ?_
  refine wwg ?_
  refine qBw (qAr (sz:=5) hT rfl rfl rfl rfl (by omega)) rfl rfl ?_
  refine qAq (v:=.agg [.d (.int .i64 proto),.d (.int .i64 ver),.d (.int .i64 par),.d (.int .i64 key),.d (.int .i64 kid)]) (os:=[]) (fun kk hk1 hk2=>bufLoadN (cells:=flatAV (encFs o)) hT rfl rfl (hk2 1 List.mem_cons_self) rfl rfl (by decide) (by show _+5≤_;simp;omega) (by rw [Int.toNat_natCast];exact hcut)) rfl ?_
  refine wwg ?_
  refine qAq (os:=[]) (fun k hk1 hk2=>qBu hT rfl rfl) rfl ?_
  refine wwg ?_
  refine qAq (v:=.bm 1 (o.length+2)) (os:=[.buf 5 (o.length+2) (flatAV (encFs o)++flatAV [[.int .i64 proto,.int .i64 ver,.int .i64 par,.int .i64 key,.int .i64 kid],[.int .i64 proto,.int .i64 ver,.int .i64 par,.int .i64 key,.int .i64 kid]])]) (fun kk hk1 hk2=>bufApp_ok (i:=1) (sz:=5) (by_:=40) (n:=o.length) (es2:=[[.int .i64 proto,.int .i64 ver,.int .i64 par,.int .i64 key,.int .i64 kid],[.int .i64 proto,.int .i64 ver,.int .i64 par,.int .i64 key,.int .i64 kid]]) hT rfl rfl rfl rfl (hk2 1 List.mem_cons_self) rfl (by show (o.length+2)*(40+1)≤_;omega)) rfl ?_
  refine wwg ?_
  refine ww ?_
  have hfl:flatAV (encFs (o++[⟨proto,ver,par,key,kid⟩,⟨proto,ver,par,key,kid⟩]))=flatAV (encFs o)++flatAV [[.int .i64 proto,.int .i64 ver,.int .i64 par,.int .i64 key,.int .i64 kid],[.int .i64 proto,.int .i64 ver,.int .i64 par,.int .i64 key,.int .i64 kid]]:=by rw [encFs_append,qDe];rfl
  refine ⟨(i+1,o++[(⟨proto,ver,par,key,kid⟩:Inf),⟨proto,ver,par,key,kid⟩]),⟨c5',by rw [ho,List.append_assoc,show 2*(i+1)=2*i+1+1 by omega,List.replicate_succ',List.replicate_succ',List.append_assoc];rfl⟩,by simp only;omega,⟨.refl _,AV.le.eq (by show AV.bm 1 (o.length+2)=_;rw [List.length_append];rfl),.refl _,.int hwr,trivial⟩,?_⟩
  rw [show (o++[(⟨proto,ver,par,key,kid⟩:Inf),⟨proto,ver,par,key,kid⟩]).length=o.length+2 by simp,hfl]
  exact HLe.refl _
 ·have c5':i=9:=by simp at c5;omega
  subst c5'
  subst ho
  refine wwe ?_
  refine qBj 5 1 5 (encFs (l++List.replicate 18 ⟨proto,ver,par,key,kid⟩)) rfl rfl hol (RowDat_flat (qBp _)) rfl ?_
  refine ww ?_
  exact rq ⟨rfl,rfl⟩ rfl AV.le.dat
end Tdoc
/- DatagroupsWraps: the law is always true. -/
set_option linter.unusedVariables false
set_option linter.unusedSimpArgs false
namespace Tdoc
open Go Go.Proofs
end Tdoc
/- 'DatagroupsWrites': whatever the numbers, the law returns true. -/
set_option maxHeartbeats 8000000
set_option maxRecDepth 100000
set_option linter.unusedVariables false
set_option linter.unusedSimpArgs false
namespace Tdoc
open Go Go.Proofs
theorem encTs_size (l:List Tpl):∀ e,e∈encTs l→e.length=7:=fun e he=>by
 obtain ⟨x,_,rfl⟩:=List.mem_map.1 he;rfl
theorem encTs_flat (l:List Tpl):(flatAV (encTs l)).length=l.length*7:=by rw [qDd (encTs_size l),qCh]
theorem lowL_map (k:Nat):∀ l:List Dat,lowL k (l.map .d)=true
 | []=>rfl
 | a::l=>by show (low k (.d a)&&lowL k (l.map .d))=true;rw [lowL_map k l];rfl
theorem lowL_flat (k:Nat) (es:List (List Dat)):lowL k (flatAV es)=true:=lowL_map k _
theorem DTemplatesO_spec (L:List Int) (hL:L.length≤1000000) (a:Nat) (ha:a≤L.length) (k:Int) (hk:1≤k∧k≤3) :
  Spec Tryz.prog 18 [.ptr 0 0,.d (.int .i64 k)] [.row (diceR L a),.room] (fun r h'=>∃ x,TplsP L k x∧r=.bm 1 x.1.length∧h'=[.row (diceR L x.2),.buf 7 x.1.length (flatAV (encTs x.1))]):=by
 have hN:=qCs L hL a ha 3 (by omega) (by omega)
 have hT':=fun a ha=>DTemplate_spec L hL a ha k hk
 refine qAb hT Tryz.func18 rfl rfl rfl rfl ?_;intro E hE
 refine wwe ?_
 refine qAt (qAk ?_)
 refine wws ?_
 refine qAt (qAk ?_)
 refine wws ?_
 refine AW_bufOf 5 7 1 (.inr rfl) rfl rfl ?_
 refine ww ?_
 refine qAv (callX rfl rfl (hN) [0] (by decide) rfl rfl rfl rfl (fun _=>rfl) (fun _=>rfl) (fun _=>rfl)) rfl ?_
 rintro ⟨m,a1⟩ ⟨q1,q2,q3⟩
 simp only at q1 q2 q3 ⊢
 obtain ⟨m,rfl⟩:∃ m':Nat,m=(m':Int):=⟨m.toNat,by omega⟩
 have hw0:IntKind.i64.wrap (1+(m:Int))=((m+1:Nat):Int):=by rw [qAe (by omega)];omega
 refine ww ?_
 refine qAn (ι:=Nat×Nat×List Tpl) (fun x=>[(0,.ptr 0 0),(1,.d (.int .i64 k)),(5,.bm 1 x.2.2.length),(6,.d (.int .i64 (x.2.1:Int)))]) (fun x=>[.row (diceR L x.1),.buf 7 x.2.2.length (flatAV (encTs x.2.2))])
  (fun x=>x.1≤L.length∧(∀ t,t∈x.2.2→validT t=0∧t.kind=k)∧x.2.2.length+x.2.1≤3∧1≤x.2.2.length+x.2.1) (fun x=>x.2.1) (a1,m+1,[]) ⟨q3,(by simp),by simp;omega,by simp⟩ ⟨.refl _,.refl _,.refl _,.int hw0,trivial⟩ (HLe.refl _) ?_
 rintro ⟨b,m,out⟩ ⟨h1,h2,h3,h4⟩
 simp only at h1 h2 h3 h4 ⊢
 have hol:=qCh out
 refine ww ?_
 refine qAa rfl (fun h5=>?_) (fun h5=>?_)
 ·obtain ⟨m,rfl⟩:∃ m',m=m'+1:=⟨m-1,by simp at h5;omega⟩
  have hwm:IntKind.i64.wrap (((m+1:Nat):Int)-1)=(m:Int):=by rw [qAe (by omega)];omega
  refine ww ?_
  refine qAv (callX rfl rfl (hT' b h1) [0] (by decide) rfl rfl rfl rfl (fun _=>rfl) (fun _=>rfl) (fun _=>rfl)) rfl ?_
  rintro ⟨t,b2⟩ ⟨r1,r2,r3⟩
  simp only at r1 r2 r3 ⊢
  unfold tAV tCells
  refine ww ?_
  refine qAd (bufApp_ok hT rfl rfl rfl rfl rfl rfl (by show (out.length+1)*(72+1)≤_;omega)) rfl ?_
  refine ww ?_
  have hfl:flatAV (encTs (out++[t]))=flatAV (encTs out)++flatAV [encT t]:=by rw [encTs_append,qDe];rfl
  refine ⟨(b2,m,out++[t]),⟨r3,fun y hy=>?_,by simp only [List.length_append,List.length_singleton];omega,by simp only [List.length_append,List.length_singleton];omega⟩,by simp only;omega,⟨.refl _,.refl _,AV.le.eq (by show AV.bm 1 (out.length+1)=_;rw [List.length_append];rfl),.int hwm,trivial⟩,?_⟩
  ·rcases List.mem_append.1 hy with hy | hy
   ·exact h2 y hy
   ·rw [List.mem_singleton.1 hy];exact ⟨r1,r2⟩
  ·rw [show (out++[t]).length=out.length+1 by simp,hfl]
   exact HLe.refl _
 ·have h5':m=0:=by simp at h5;omega
  subst h5'
  refine ww ?_
  exact rq ⟨(out,b),⟨h2,by simp only;omega,by simp only;omega,h1⟩,rfl,rfl⟩ rfl (.refl _) rfl rfl rfl (by simp only [lowH,lowO,lowL_flat];rfl)
theorem bioR_far (n:Int) (hn:n < 2) (l:List Tpl):Spec Tryz.prog 29 [.d (.int .i64 n),.d (.sl 7 (encTs l))] [] (fun r h'=>r=.tup [.d (.sl 1 (encB (bioF n l).1)),.d (.int .i64 (bioF n l).2)]∧h'=[]):=by
 unfold bioF
 rw [if_pos (.inl hn)]
 refine qAb hT Tryz.func29 rfl rfl rfl rfl ?_;intro E hE
 refine ww ?_
 refine qAa rfl (fun c1=>?_) (fun c1=>?_)
 case refine_2=>exact absurd c1 (by simp [hn])
 refine ww ?_
 exact wwr
theorem bioR_specA (n:Int) (hn : -9223372036854775808≤n∧n≤9223372036854775807) (l:List Tpl) (hl:l.length≤1000000):Spec Tryz.prog 29 [.d (.int .i64 n),.d (.sl 7 (encTs l))] [] (fun r h'=>r=.tup [.d (.sl 1 (encB (bioF n l).1)),.d (.int .i64 (bioF n l).2)]∧h'=[]):=by
 by_cases h:n < 2
 ·exact bioR_far n h l
 ·exact bioF_spec n (by omega) l hl
theorem bioP_far (n:Int) (hn:n < 2) (l:List Tpl):Spec Tryz.prog 28 [.d (.int .i64 n),.d (.sl 7 (encTs l))] [] (fun r h'=>r=.tup [.d (.sl 1 (encB (bioF n l).1)),.d (.int .i64 (bioF n l).2)]∧h'=[]):=by
 have hbm:=biometric_spec n
 unfold bioF
 rw [if_pos (.inl hn)]
 refine qAb hT Tryz.func28 rfl rfl rfl rfl ?_;intro E hE
 refine ww ?_
 refine wwc hbm ?_
 refine ww ?_
 refine qAa rfl (fun c1=>?_) (fun c1=>?_)
 case refine_2 =>
  simp only [Bool.not_eq_false',Bool.and_eq_true,decide_eq_true_eq] at c1
  exact absurd c1.1 (by omega)
 refine ww ?_
 exact wwr
theorem bioP_specA (n:Int) (hn : -9223372036854775808≤n∧n≤9223372036854775807) (l:List Tpl) (hl:l.length≤1000000):Spec Tryz.prog 28 [.d (.int .i64 n),.d (.sl 7 (encTs l))] [] (fun r h'=>r=.tup [.d (.sl 1 (encB (bioF n l).1)),.d (.int .i64 (bioF n l).2)]∧h'=[]):=by
 by_cases h:n < 2
 ·exact bioP_far n h l
 ·exact bioP_spec n (by omega) l hl
theorem detR_far (n:Int) (hn:n < 2) (l:List Det):Spec Tryz.prog 31 [.d (.int .i64 n),.d (.sl 2 (encDs l))] [] (fun r h'=>r=.tup [.d (.sl 1 (encB (detF n l).1)),.d (.int .i64 (detF n l).2)]∧h'=[]):=by
 unfold detF
 have h11:n≠11∧n≠12:=by omega
 rw [if_pos h11]
 refine qAb hT Tryz.func31 rfl rfl rfl rfl ?_;intro E hE
 refine ww ?_
 refine qAa rfl (fun c1=>?_) (fun c1=>?_)
 case refine_2=>exact absurd c1 (by simp [h11.1,h11.2])
 refine ww ?_
 exact wwr
theorem detR_specA (n:Int) (hn : -9223372036854775808≤n∧n≤9223372036854775807) (l:List Det) (hl:l.length≤1000000):Spec Tryz.prog 31 [.d (.int .i64 n),.d (.sl 2 (encDs l))] [] (fun r h'=>r=.tup [.d (.sl 1 (encB (detF n l).1)),.d (.int .i64 (detF n l).2)]∧h'=[]):=by
 by_cases h:n < 2
 ·exact detR_far n h l
 ·exact detF_spec n (by omega) l hl
theorem detP_far (n:Int) (hn:n < 2) (l:List Det):Spec Tryz.prog 30 [.d (.int .i64 n),.d (.sl 2 (encDs l))] [] (fun r h'=>r=.tup [.d (.sl 1 (encB (detF n l).1)),.d (.int .i64 (detF n l).2)]∧h'=[]):=by
 have hdn:=detailed_none n (by omega)
 unfold detF
 rw [if_pos (by omega)]
 refine qAb hT Tryz.func30 rfl rfl rfl rfl ?_;intro E hE
 refine ww ?_
 refine wwc hdn ?_
 refine ww ?_
 refine qAd (qAc (sliceNil_ok rfl rfl Tryz.underlying22 rfl)) rfl ?_
 refine ww ?_
 refine qAa rfl (fun c1=>?_) (fun c1=>?_)
 case refine_2=>exact absurd c1 (by simp)
 refine ww ?_
 exact wwr
theorem detP_specA (n:Int) (hn : -9223372036854775808≤n∧n≤9223372036854775807) (l:List Det) (hl:l.length≤1000000):Spec Tryz.prog 30 [.d (.int .i64 n),.d (.sl 2 (encDs l))] [] (fun r h'=>r=.tup [.d (.sl 1 (encB (detF n l).1)),.d (.int .i64 (detF n l).2)]∧h'=[]):=by
 by_cases h:n < 2
 ·exact detP_far n h l
 ·exact detP_spec n (by omega) l hl
theorem datagroupsWrites_spec (t:List Int) (ht:t.length≤9223372036854775807) (number:Int) (hnum : -9223372036854775808≤number∧number≤9223372036854775807) :
  Spec Tryz.prog 4 [.d (.sl 1 (encI t)),.d (.int .i64 number)] [] (fun r h'=>r=.d (.bool true)∧h'=[]):=by
 have hli:=Light_spec t
 refine qAb hT Tryz.func4 rfl rfl rfl rfl ?_;intro E hE
 refine ww ?_
 refine wwc hli ?_
 refine ww ?_
 refine qAa rfl (fun h1=>?_) (fun h1=>?_)
 ·refine ww ?_
  refine wwc awake_spec ?_
  refine ww ?_
  exact wwr
 have h1':t.length≤400:=by simpa using h1
 have hR:=Roll_spec t (by omega)
 have hZ:=DZone_spec t (by omega) 0 (by omega)
 refine wwe ?_
 refine qAo ?_
 refine qAo ?_
 refine qAt (qAk ?_)
 refine wws ?_
 refine AWk_opF (callS rfl rfl hR [0] (by decide) rfl rfl rfl rfl rfl rfl) rfl rfl ?_
 refine ww ?_
 refine qAv (callX rfl rfl (hZ) [0] (by decide) rfl rfl rfl rfl (fun _=>rfl) (fun _=>rfl) (fun _=>rfl)) rfl ?_
 rintro ⟨z,a1⟩ ⟨z1,z2⟩
 simp only at z1 z2 ⊢
 obtain ⟨fmt,kind,state,sur,giv,num,nat,bir,sex,exp,opt,sec⟩:=z
 have hzl:=z1.len
 unfold zAV zCells
 simp only
 refine ww ?_
 refine qAv (callX rfl rfl (qCs t (by omega) a1 z2 3 (by omega) (by omega)) [0] (by decide) rfl rfl rfl rfl (fun _=>rfl) (fun _=>rfl) (fun _=>rfl)) rfl ?_
 rintro ⟨n,a2⟩ ⟨q1,q2,q3⟩
 simp only at q1 q2 q3 ⊢
 have hwn:IntKind.i64.wrap (1+n)=1+n:=qAe (by omega)
 have hT1:=DTemplatesO_spec t (by omega) a2 q3 (1+n) (by omega)
 rw [← hwn] at hT1
 refine ww ?_
 refine qAv (callXv rfl rfl hT1 [0,1] (by decide) rfl rfl rfl rfl (fun _=>by simp only [lowH,lowO,lowL_flat];rfl) (v:=fun x=>.bm 1 x.1.length) (fun _=>rfl) (fun _=>rfl)) rfl ?_
 rintro ⟨l,a3⟩ ⟨l1,l2,l3,l4⟩
 simp only at l1 l2 l3 l4 ⊢
 refine ww ?_
 refine qAv (callX rfl rfl (qCs t (by omega) a3 l4 2 (by omega) (by omega)) [0] (by decide) rfl rfl rfl rfl (fun _=>rfl) (fun _=>rfl) (fun _=>rfl)) rfl ?_
 rintro ⟨n2,a4⟩ ⟨r1,r2,r3⟩
 simp only at r1 r2 r3 ⊢
 refine ww ?_
 refine qAv (callX rfl rfl (DDetails_spec t (by omega) a4 r3 (IntKind.i64.wrap (11+n2))) [0] (by decide) rfl rfl rfl rfl (fun _=>rfl) (fun _=>rfl) (fun _=>rfl)) rfl ?_
 rintro ⟨s,a5⟩ ⟨s1,s2⟩
 simp only at s1 s2 ⊢
 refine ww ?_
 refine qAv (callX rfl rfl (DInfos_spec t (by omega) a5 s2) [0] (by decide) rfl rfl rfl rfl (fun _=>rfl) (fun _=>rfl) (fun _=>rfl)) rfl ?_
 rintro ⟨fs,a6⟩ ⟨f1,f2⟩
 simp only at f1 f2 ⊢
 have hsl:=s1.2.2
 have hfl:=f1.2.2
 have hKf:=f1.keyR
 have hzn:num.length≤9000:=by
  have h19:num.length≤(mostN fmt).toNat:=z1.num.2.2
  have h20:mostN fmt≤20:=by unfold mostN;split <;> (try split) <;> omega
  omega
 clear s1 f1 z1 hT1 hZ hR hli
 refine wws ?_
 refine qAs (ι:=Zon×List Tpl×List Det×List Inf×Nat) (fun x=>[(1,.d (.int .i64 number)),(5,.ptr 0 0),(6,.ptr 2 0),(7,.bm 1 x.2.1.length),(8,.d (.sl 2 (encDs x.2.2.1))),(9,.d (.sl 5 (encFs x.2.2.2.1)))])
  (fun x=>[.row (diceR t x.2.2.2.2),.buf 7 x.2.1.length (flatAV (encTs x.2.1)),.row (zCells x.1)])
  (fun x=>zLen x.1∧x.2.1.length≤3∧x.2.2.1.length≤50∧x.2.2.2.1.length≤50∧KeyR x.2.2.2.1∧x.2.2.2.2≤t.length) ?_ ?_
 ·refine ww ?_
  refine qAv (callX rfl rfl (One_spec t (by omega) a6 f2 2 (by omega) (by omega)) [0] (by decide) rfl rfl rfl rfl (fun _=>rfl) (fun _=>rfl) (fun _=>rfl)) rfl ?_
  rintro ⟨c,a7⟩ g1
  simp only at g1 ⊢
  refine ww ?_
  refine qAa rfl (fun c1=>?_) (fun c1=>?_)
  ·obtain ⟨t0,l',rfl⟩:∃ t0 l',l=t0::l':=match l,l2 with
    | t0::l',_=>⟨t0,l',rfl⟩
   have o1:=OddZone_spec t (by omega) a7 g1 ⟨fmt,kind,state,sur,giv,num,nat,bir,sex,exp,opt,sec⟩ hzn
   have o1l:=oddZ_len (nxV t a7 12) (nxV t (nxA t a7)) hzl hzn
   have o1a:=oddZF_le g1 ⟨fmt,kind,state,sur,giv,num,nat,bir,sex,exp,opt,sec⟩
   have o1e:(oddZF t a7 ⟨fmt,kind,state,sur,giv,num,nat,bir,sex,exp,opt,sec⟩).1=oddZ (nxV t a7 12) (nxV t (nxA t a7)) ⟨fmt,kind,state,sur,giv,num,nat,bir,sex,exp,opt,sec⟩:=rfl
   rw [← o1e] at o1l
   clear o1e
   generalize oddZF t a7 ⟨fmt,kind,state,sur,giv,num,nat,bir,sex,exp,opt,sec⟩=w1 at o1 o1l o1a
   obtain ⟨⟨u1,u2,u3,u4,u5,u6,u7,u8,u9,u10,u11,u12⟩,b1⟩:=w1
   simp only at o1 o1l o1a
   unfold zAV zCells at o1
   simp only at o1
   have o2:=OddTemplate_spec t (by omega) b1 o1a t0
   have o2a:=oddTF_le o1a t0
   generalize oddTF t b1 t0=w2 at o2 o2a
   obtain ⟨⟨v1,v2,v3,v4,v5,v6,v7⟩,b2⟩:=w2
   obtain ⟨k1,k2,k3,k4,k5,k6,k7⟩:=t0
   simp only at o2 o2a
   unfold tAV tCells at o2
   simp only at o2
   have o3:=OddDetails_spec t (by omega) b2 o2a s (by omega)
   have o3a:=oddDF_ok o2a s
   generalize oddDF t b2 s=w3 at o3 o3a
   obtain ⟨s',b3⟩:=w3
   simp only at o3 o3a
   have o4:=OddInfos_spec t (by omega) b3 o3a.2 fs (by omega)
   have o4a:=oddIF_ok o3a.2 hKf
   generalize oddIF t b3 fs=w4 at o4 o4a
   obtain ⟨fs',b4⟩:=w4
   simp only at o4 o4a
   refine wwn ?_
   refine AW_drawT (fun i=>bif Nat.beq i 2 then [2] else bif Nat.beq i 3 then [0] else bif Nat.beq i 7 then [1] else bif Nat.beq i 8 then [0] else bif Nat.beq i 11 then [0] else bif Nat.beq i 14 then [0] else bif Nat.beq i 15 then [2] else bif Nat.beq i 17 then [1] else [])
    (fun i=>bif Nat.beq i 3 then [0] else bif Nat.beq i 8 then [0] else bif Nat.beq i 11 then [0] else bif Nat.beq i 14 then [0] else bif Nat.beq i 15 then [2] else bif Nat.beq i 17 then [1] else []) mixed (by kernel_rfl) ?_
   refine wwg ?_
   refine qAq (v:=.agg [.d (.int .i64 u1),.d (.str u2),.d (.str u3),.d (.str u4),.d (.str u5),.d (.str u6),.d (.str u7),.d (.str u8),.d (.str u9),.d (.str u10),.d (.str u11),.d (.str u12)]) (os:=[.row (diceR t b1)]) (fun k hk1 hk2=>callS1 rfl rfl o1 [0] (by decide) (by show [k[0]?]=_;rw [hk2 0 List.mem_cons_self];rfl) rfl rfl rfl rfl rfl rfl) rfl ?_
   refine wwg ?_
   refine qBw (qAr (sz:=7) hT rfl rfl rfl rfl (by simp)) rfl rfl ?_
   refine qAq (v:=.agg [.d (.int .i64 k1),.d (.int .i64 k2),.d (.int .i64 k3),.d (.int .i64 k4),.d (.int .i64 k5),.d (.int .i64 k6),.d (.sl 1 (encB k7))]) (os:=[]) (fun k hk1 hk2=>bufLoadN hT rfl rfl (hk2 1 List.mem_cons_self) rfl rfl (by decide) (by show 0+7≤_;rw [encTs_flat];simp;omega) rfl) rfl ?_
   refine wwg ?_
   refine qAq (v:=.agg [.d (.int .i64 v1),.d (.int .i64 v2),.d (.int .i64 v3),.d (.int .i64 v4),.d (.int .i64 v5),.d (.int .i64 v6),.d (.sl 1 (encB v7))]) (os:=[.row (diceR t b2)]) (fun k hk1 hk2=>callS1 rfl rfl o2 [0] (by decide) (by show [k[0]?]=_;rw [hk2 0 List.mem_cons_self];rfl) rfl rfl rfl rfl rfl rfl) rfl ?_
   refine wwg ?_
   refine qAq (v:=.d (.sl 2 (encDs s'))) (os:=[.row (diceR t b3)]) (fun k hk1 hk2=>callS1 rfl rfl o3 [0] (by decide) (by show [k[0]?]=_;rw [hk2 0 List.mem_cons_self];rfl) rfl rfl rfl rfl rfl rfl) rfl ?_
   refine wwg ?_
   refine qAq (v:=.d (.sl 5 (encFs fs'))) (os:=[.row (diceR t b4)]) (fun k hk1 hk2=>callS1 rfl rfl o4 [0] (by decide) (by show [k[0]?]=_;rw [hk2 0 List.mem_cons_self];rfl) rfl rfl rfl rfl rfl rfl) rfl ?_
   refine wwg ?_
   refine qBw (qAr (sz:=7) hT rfl rfl rfl rfl (by simp)) rfl rfl ?_
   refine qAq (v:=.any) (os:=[.buf 7 (⟨k1,k2,k3,k4,k5,k6,k7⟩::l':List Tpl).length (flatAV (encTs (⟨v1,v2,v3,v4,v5,v6,v7⟩::l')))]) (fun k hk1 hk2=>bufStoreN (cs:=[.d (.int .i64 v1),.d (.int .i64 v2),.d (.int .i64 v3),.d (.int .i64 v4),.d (.int .i64 v5),.d (.int .i64 v6),.d (.sl 1 (encB v7))]) hT rfl rfl rfl rfl (hk2 1 List.mem_cons_self) rfl rfl (by simp) (by show 0+7≤_;rw [encTs_flat];simp;omega) rfl) rfl ?_
   refine wwg ?_
   refine ww ?_
   exact ⟨(⟨u1,u2,u3,u4,u5,u6,u7,u8,u9,u10,u11,u12⟩,⟨v1,v2,v3,v4,v5,v6,v7⟩::l',s',fs',b4),⟨o1l,l3,by simp only;omega,by simp only;omega,o4a.1,o4a.2.2⟩,⟨.refl _,.refl _,.refl _,.refl _,.refl _,.refl _,trivial⟩,HLe.refl _⟩
  ·refine ww ?_
   exact ⟨(⟨fmt,kind,state,sur,giv,num,nat,bir,sex,exp,opt,sec⟩,l,s,fs,a7),⟨hzl,l3,by simp only;omega,by simp only;omega,hKf,g1⟩,⟨.refl _,.refl _,.refl _,.refl _,.refl _,.refl _,trivial⟩,HLe.refl _⟩
 clear hzl hzn l1 l2 l3 hsl hfl hKf f2
 rintro ⟨⟨fmt,kind,state,sur,giv,num,nat,bir,sex,exp,opt,sec⟩,l,s,fs,a7⟩ ⟨y1,y2,y3,y4,y5,y6⟩
 unfold zCells
 simp only at y1 y2 y3 y4 y5 y6 ⊢
 refine qAt (qAk ?_)
 refine wws ?_
 refine qAs (ι:=Int×Nat) (fun x=>[(5,.ptr 0 0),(6,.ptr 2 0),(7,.bm 1 l.length),(8,.d (.sl 2 (encDs s))),(9,.d (.sl 5 (encFs fs))),(10,.d (.int .i64 x.1))])
  (fun x=>[.row (diceR t x.2),.buf 7 l.length (flatAV (encTs l)),.row [.d (.int .i64 fmt),.d (.str kind),.d (.str state),.d (.str sur),.d (.str giv),.d (.str num),.d (.str nat),.d (.str bir),.d (.str sex),.d (.str exp),.d (.str opt),.d (.str sec)]])
  (fun x=>-9223372036854775808≤x.1∧x.1≤9223372036854775807) ?_ ?_
 ·refine ww ?_
  refine qAv (callX rfl rfl (One_spec t (by omega) a7 y6 2 (by omega) (by omega)) [0] (by decide) rfl rfl rfl rfl (fun _=>rfl) (fun _=>rfl) (fun _=>rfl)) rfl ?_
  rintro ⟨c,a8⟩ g1
  simp only at g1 ⊢
  refine ww ?_
  refine qAa rfl (fun c1=>?_) (fun c1=>?_)
  ·refine ww ?_
   refine qAv (callX rfl rfl (qCs t (by omega) a8 g1 5 (by omega) (by omega)) [0] (by decide) rfl rfl rfl rfl (fun _=>rfl) (fun _=>rfl) (fun _=>rfl)) rfl ?_
   rintro ⟨k,a9⟩ ⟨g2,g3,g4⟩
   simp only at g2 g3 g4 ⊢
   have hxn:0≤k∧k < 5:=⟨g2,g3⟩
   have hat:=pkI_at (T:=[2,3,4,11,12]) hxn
   have hm:=pkI_mem (T:=[2,3,4,11,12]) hxn
   generalize pkI [2,3,4,11,12] k=v at hat hm
   refine ww ?_
   refine wwi hat ?_
   refine ww ?_
   exact ⟨(v,a9),by simp at hm;simp only;omega,⟨.refl _,.refl _,.refl _,.refl _,.refl _,.refl _,trivial⟩,HLe.refl _⟩
  ·refine ww ?_
   exact ⟨(number,a8),hnum,⟨.refl _,.refl _,.refl _,.refl _,.refl _,.refl _,trivial⟩,HLe.refl _⟩
 clear hnum number y6 a7
 rintro ⟨n,a7⟩ hn
 simp only at hn ⊢
 refine qBj 7 1 7 (encTs l) rfl rfl (qCh l) (RowDat_flat (encTs_size l)) rfl ?_
 refine qDa (l:=[(6,.ptr 2 0),(7,.d (.sl 7 (encTs l))),(8,.d (.sl 2 (encDs s))),(9,.d (.sl 5 (encFs fs))),(10,.d (.int .i64 n))]) (h':=[.dead,.dead,.row [.d (.int .i64 fmt),.d (.str kind),.d (.str state),.d (.str sur),.d (.str giv),.d (.str num),.d (.str nat),.d (.str bir),.d (.str sex),.d (.str exp),.d (.str opt),.d (.str sec)]]) ⟨.refl _,.dat,.refl _,.refl _,.refl _,trivial⟩ ⟨trivial,trivial,ObLe.refl _,trivial⟩ ?_
 have p1:=ZoneP_spec _ y1
 have q1:=ZoneR_spec _ y1
 have w1:=SameSelf_spec _ (by have:=(zoneM ⟨fmt,kind,state,sur,giv,num,nat,bir,sex,exp,opt,sec⟩).w.short;exact Nat.le_trans this (by omega))
 generalize zoneF ⟨fmt,kind,state,sur,giv,num,nat,bir,sex,exp,opt,sec⟩=x1 at p1 q1 w1
 obtain ⟨x1,e1⟩:=x1
 unfold zAV zCells at p1 q1
 simp only at p1 q1 w1
 have p2:=bioP_specA n hn l (by omega)
 have q2:=bioR_specA n hn l (by omega)
 have w2:=SameSelf_spec _ (by have:=(bioM (n:=n) l).w.short;exact Nat.le_trans this (by omega))
 generalize bioF n l=x2 at p2 q2 w2
 obtain ⟨x2,e2⟩:=x2
 simp only at p2 q2 w2
 have p3:=detP_specA n hn s (by omega)
 have q3:=detR_specA n hn s (by omega)
 have w3:=SameSelf_spec _ (by have:=(detM (n:=n) s).w.short;exact Nat.le_trans this (by omega))
 generalize detF n s=x3 at p3 q3 w3
 obtain ⟨x3,e3⟩:=x3
 simp only at p3 q3 w3
 have p4:=infosP_spec fs (by omega)
 have q4:=infosF_spec fs (by omega) y5.ok
 have w4:=SameSelf_spec _ (by have:=(infosM fs).w.short;exact Nat.le_trans this (by omega))
 generalize infosF fs=x4 at p4 q4 w4
 obtain ⟨x4,e4⟩:=x4
 simp only at p4 q4 w4
 refine ww ?_
 refine wwc p1 ?_
 refine ww ?_
 refine wwc q1 ?_
 refine ww ?_
 refine wwc p2 ?_
 refine ww ?_
 refine wwc q2 ?_
 refine ww ?_
 refine wwc p3 ?_
 refine ww ?_
 refine wwc q3 ?_
 refine ww ?_
 refine wwc p4 ?_
 refine ww ?_
 refine wwc q4 ?_
 refine ww ?_
 refine wwc awake_spec ?_
 refine ww ?_
 refine wwgc w1 ?_
 refine ww ?_
 refine wwgc w2 ?_
 refine ww ?_
 refine wwgc w3 ?_
 refine ww ?_
 refine wwgc w4 ?_
 refine ww ?_
 exact rq ⟨rfl,rfl⟩ rfl (.bool (by simp))
end Tdoc
