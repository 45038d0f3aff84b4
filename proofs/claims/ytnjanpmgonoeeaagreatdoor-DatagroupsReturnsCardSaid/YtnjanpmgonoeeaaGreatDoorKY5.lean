/- The texts NK NL ZJ NM NN XG XH XI NO XJ XK OA NP OE Y8 Y9 XL XM XN XO NQ NR NS NT NU Y5 ZF ZG ZI ZH Y6 RA RB ZK0 RC RD: each says at its head what it shows. Part 5 of the proof; no conditions beyond the theorems' own. -/
import Derived.Test.YtnjanpmgonoeeaaGreatDoorKY3
import Derived.Test.YtnjanpmgonoeeaaGreatDoorKY4
import Derived.Test.YtnjanpmgonoeeaaGreatDoorKY2
import Derived.KernelRfl
set_option maxHeartbeats 8000000
set_option maxRecDepth 100000
set_option linter.unusedVariables false
set_option linter.unusedSimpArgs false
namespace Tdoc
open Go Go.Proofs
def HLsmall (zc:List AV) (i:Nat):List AObj:=match i with
 | 0=>[.row zc,.row (intsA (layD 2)),.row (intsA (layD 2)++[.sl 1 [] .full]),.room,.room,.room,.room,.room,.room,.room]
 | 1=>[.row zc,.row (intsA (layD 2)),.row (intsA (layD 2)++[.bm 3 1]),.buf 1 1 [.rx 4 0 36],.row (byteAV (List.replicate 36 60)),.room,.dead,.room,.room,.room]
 | _=>[.row zc,.row (intsA (layD 2)),.row (intsA (layD 2)++[.bm 3 2]),.buf 1 2 [.rx 4 0 36,.rx 5 0 36],.row (byteAV (List.replicate 36 60)),.row (byteAV (List.replicate 36 60)),.dead,.dead,.room,.room]
theorem BuildP_small (z:Zon) (hz:zLen z) (h0:validZ z=0) (hf:z.fmt=2):Spec Tryz.prog 65 [zAV z] [] (fun r h'=>r=.tup [.d (.sl 1 (encSs (buildZ z))),.d (.int .i64 0)]∧h'=[]):=by
 have hv:=ZValid_spec z hz
 have hlay:Spec Tryz.prog 120 [.d (.int .i64 2)] [] (fun r h'=>r=.tup [.agg (intsA (layD 2)),.d (.int .i64 2),.d (.int .i64 36)]∧h'=[]):=qCv 2
 have hR:Spec Tryz.prog 121 [.d (.str [60]),.d (.int .i64 36)] [] (fun r h'=>r=.d (.str (List.replicate 36 60))∧h'=[]):=qBz 36 (by omega)
 have hNm:=NamesP_spec z.sur z.giv 31 (by have:=hz.2.2.1;omega) (by have:=hz.2.2.2.1;omega)
 have hNl:=namesF_ok h0 (w:=31) (by omega)
 have hd1:Spec Tryz.prog 123 [.d (.str z.bir)] [] (fun r h'=>r=.d (.str (dgS z.bir))∧h'=[]):=qBw z.bir (by have:=hz.2.2.2.2.2.2.1;omega)
 have hd2:Spec Tryz.prog 123 [.d (.str z.exp)] [] (fun r h'=>r=.d (.str (dgS z.exp))∧h'=[]):=qBw z.exp (by have:=hz.2.2.2.2.2.2.2.2.1;omega)
 rw [h0] at hv
 have ok:=validZ_ok h0
 obtain ⟨fmt,kind,state,sur,giv,num,nat,bir,sex,exp,opt,sec⟩:=z
 unfold zAV zCells at hv ⊢
 simp only at hv hf hNm hNl hd1 hd2 ⊢
 subst hf
 generalize hnm:namesF sur giv 31=nm at hNm hNl
 obtain ⟨name,ne⟩:=nm
 simp only at hNm hNl
 have hkeys:∀ y∈([(3,0,kind),(6,1,state),(8,2,name),(11,5,nat),(14,6,bir),(18,7,dgS bir),(21,8,sex),(24,9,exp),(28,10,dgS exp),(31,13,sec)]:Ins),∃ i:Nat,i < 15∧y.2.1=(i:Int):=fun y hy=>by
  simp only [List.mem_cons,List.not_mem_nil,or_false] at hy
  rcases hy with rfl | rfl | rfl | rfl | rfl | rfl | rfl | rfl | rfl | rfl
  ·exact ⟨0,by omega,rfl⟩
  ·exact ⟨1,by omega,rfl⟩
  ·exact ⟨2,by omega,rfl⟩
  ·exact ⟨5,by omega,rfl⟩
  ·exact ⟨6,by omega,rfl⟩
  ·exact ⟨7,by omega,rfl⟩
  ·exact ⟨8,by omega,rfl⟩
  ·exact ⟨9,by omega,rfl⟩
  ·exact ⟨10,by omega,rfl⟩
  ·exact ⟨13,by omega,rfl⟩
 have hlen:∀ y∈([(3,0,kind),(6,1,state),(8,2,name),(11,5,nat),(14,6,bir),(18,7,dgS bir),(21,8,sex),(24,9,exp),(28,10,dgS exp),(31,13,sec)]:Ins),y.2.2.length≤100000:=fun y hy=>by
  have hb1:=qBc bir
  have hb2:=qBc exp
  obtain ⟨g1,g2,g3,g4,g5,g6,g7,g8,g9,g10,g11⟩:=hz
  simp only at g1 g2 g3 g4 g5 g6 g7 g8 g9 g10 g11
  simp only [List.mem_cons,List.not_mem_nil,or_false] at hy
  rcases hy with rfl | rfl | rfl | rfl | rfl | rfl | rfl | rfl | rfl | rfl <;> simp only [dgS] <;> omega
 have hflat:∀ p,p∈mapA [(3,0,kind),(6,1,state),(8,2,name),(11,5,nat),(14,6,bir),(18,7,dgS bir),(21,8,sex),(24,9,exp),(28,10,dgS exp),(31,13,sec)]→isFlat p.1=true∧isFlat p.2=true:=fun p hp=>by obtain ⟨y,_,rfl⟩:=List.mem_map.1 hp;exact ⟨rfl,rfl⟩
 refine qAb hT Tryz.func65 rfl rfl rfl rfl ?_;intro E hE
 refine ww ?_
 refine wwc hv ?_
 refine ww ?_
 refine qAa rfl (fun c1=>?_) (fun c1=>?_)
 ·exact absurd c1 (by simp)
 refine ww ?_
 refine wwc hlay ?_
 refine ww ?_
 refine qAo ?_
 refine qAo ?_
 refine qAo ?_
 refine qAo ?_
 refine qAo ?_
 refine qAo ?_
 refine qAo ?_
 refine qAq (ι:=Nat) (fun i=>[(1,.ptr 0 0),(5,.ptr 1 0),(7,.d (.int .i64 36)),(8,.ptr 2 0),(31,.d (.int .i64 2)),(32,.d (.int .i64 (i:Int)))]) (fun i=>HLsmall [.d (.int .i64 2),.d (.str kind),.d (.str state),.d (.str sur),.d (.str giv),.d (.str num),.d (.str nat),.d (.str bir),.d (.str sex),.d (.str exp),.d (.str opt),.d (.str sec)] i) (fun i=>i≤2) (fun i=>2-i) 0 (by omega) ⟨.refl _,.refl _,.refl _,.refl _,.refl _,.refl _,trivial⟩ (HLe.refl _) ?_
 intro i hi
 refine ww ?_
 refine qAa rfl (fun c2=>?_) (fun c2=>?_)
 ·have hi3:i=0∨i=1:=by have h3:(i:Int) < 2:=(by simpa using c2);omega
  rcases hi3 with rfl | rfl
  ·refine wwn ?_
   refine qBg (fun i=>bif Nat.beq i 4 then [2] else bif Nat.beq i 7 then [4] else bif Nat.beq i 8 then [6] else bif Nat.beq i 9 then [3,6] else bif Nat.beq i 12 then [2] else []) (fun i=>bif Nat.beq i 7 then [4] else bif Nat.beq i 8 then [6] else bif Nat.beq i 9 then [3] else bif Nat.beq i 12 then [2] else []) mixed (by kernel_rfl) ?_
   refine wwg ?_
   refine wwdc hR ?_
   refine qAs (v:=.rx 4 0 36) (os:=[.row (byteAV (List.replicate 36 60))]) (fun kk hk1 hk2=>strRx_ok (s:=List.replicate 36 60) hT rfl rfl rfl ((hk2 4 List.mem_cons_self).trans rfl)) rfl ?_
   refine qAs (v:=.row 6 0 1 1) (os:=[.row [.rx 4 0 36]]) (fun kk hk1 hk2=>qBt hT rfl rfl ((hk2 6 List.mem_cons_self).trans rfl)) rfl ?_
   refine qAs (v:=.bm 3 1) (os:=[.buf 1 1 [.rx 4 0 36]]) (fun kk hk1 hk2=>bufAppRow0_ok hT rfl rfl rfl (.inl rfl) (by intro h;cases h) ((hk2 3 List.mem_cons_self).trans rfl) rfl ((hk2 6 (List.mem_cons_of_mem _ List.mem_cons_self)).trans rfl) rfl (by decide)) rfl ?_
   refine wwg ?_
   refine ww ?_
   exact ⟨1,by omega,by omega,⟨.refl _,.refl _,.refl _,.refl _,.refl _,.refl _,trivial⟩,⟨.refl _,.refl _,.refl _,.refl _,.refl _,.refl _,trivial,.refl _,.refl _,.refl _,trivial⟩⟩
  ·refine wwn ?_
   refine qBg (fun i=>bif Nat.beq i 4 then [2] else bif Nat.beq i 7 then [5] else bif Nat.beq i 8 then [7] else bif Nat.beq i 9 then [3,7] else bif Nat.beq i 12 then [2] else []) (fun i=>bif Nat.beq i 7 then [5] else bif Nat.beq i 8 then [7] else bif Nat.beq i 9 then [3] else bif Nat.beq i 12 then [2] else []) mixed (by kernel_rfl) ?_
   refine wwg ?_
   refine wwdc hR ?_
   refine qAs (v:=.rx 5 0 36) (os:=[.row (byteAV (List.replicate 36 60))]) (fun kk hk1 hk2=>strRx_ok (s:=List.replicate 36 60) hT rfl rfl rfl ((hk2 5 List.mem_cons_self).trans rfl)) rfl ?_
   refine qAs (v:=.row 7 0 1 1) (os:=[.row [.rx 5 0 36]]) (fun kk hk1 hk2=>qBt hT rfl rfl ((hk2 7 List.mem_cons_self).trans rfl)) rfl ?_
   refine qAs (v:=.bm 3 2) (os:=[.buf 1 2 [.rx 4 0 36,.rx 5 0 36]]) (fun kk hk1 hk2=>bufAppRow_ok hT rfl rfl rfl rfl ((hk2 3 List.mem_cons_self).trans rfl) rfl ((hk2 7 (List.mem_cons_of_mem _ List.mem_cons_self)).trans rfl) rfl (by decide)) rfl ?_
   refine wwg ?_
   refine ww ?_
   exact ⟨2,by omega,by omega,⟨.refl _,.refl _,.refl _,.refl _,.refl _,.refl _,trivial⟩,⟨.refl _,.refl _,.refl _,.refl _,.refl _,.refl _,trivial,trivial,.refl _,.refl _,trivial⟩⟩
 have hi':i=2:=by have h3:¬ ((i:Int) < 2):=(by simpa using c2);omega
 subst hi'
 refine ww ?_
 first | refine qAd (qAc (qAh hT rfl rfl rfl rfl (by decide))) rfl ?_ | refine qAp (qAc (qAh hT rfl rfl rfl rfl (by decide))) rfl rfl ?_
 refine ww ?_
 refine wwc hNm ?_
 refine wws ?_
 refine qDm (l:=[(1,.ptr 0 0),(8,.ptr 2 0),(9,.d (.str name))]) (h':=[.row [.d (.int .i64 2),.d (.str kind),.d (.str state),.d (.str sur),.d (.str giv),.d (.str num),.d (.str nat),.d (.str bir),.d (.str sex),.d (.str exp),.d (.str opt),.d (.str sec)],.dead,.row (shB (layD 2) 2),.buf 1 2 [.rx 4 0 36,.rx 5 0 36],.row (byteAV (lineF (segsZ 2 0) (fun _=>[]))),.row (byteAV (lineF (segsZ 2 1) (fun _=>[]))),.dead,.dead,.room,.room]) ⟨.refl _,.refl _,.refl _,trivial⟩ ⟨.refl _,trivial,.refl _,.refl _,ObLe.row rfl,ObLe.row rfl,trivial,trivial,.refl _,.refl _,trivial⟩ ?_
 refine qBa (ι:=Unit) (fun _=>[(1,.ptr 0 0),(8,.ptr 2 0)]) (fun _=>[.row [.d (.int .i64 2),.d (.str kind),.d (.str state),.d (.str sur),.d (.str giv),.d (.str num),.d (.str nat),.d (.str bir),.d (.str sex),.d (.str exp),.d (.str opt),.d (.str sec)],.dead,.row (shB (layD 2) 2),.buf 1 2 [.rx 4 0 36,.rx 5 0 36],.row (byteAV (lineF (segsZ 2 0) (FK [(3,0,kind),(6,1,state),(8,2,name),(11,5,nat),(14,6,bir),(18,7,dgS bir),(21,8,sex),(24,9,exp),(28,10,dgS exp),(31,13,sec)]))),.row (byteAV (lineF (segsZ 2 1) (FK [(3,0,kind),(6,1,state),(8,2,name),(11,5,nat),(14,6,bir),(18,7,dgS bir),(21,8,sex),(24,9,exp),(28,10,dgS exp),(31,13,sec)]))),.dead,.dead,.dead,.dead]) (fun _=>True) ?_ ?_
 ·refine qAu ?_
  refine AW_drawM (mapM 0 (insS [(3,0,kind),(6,1,state),(8,2,name),(11,5,nat),(14,6,bir),(18,7,dgS bir),(21,8,sex),(24,9,exp),(28,10,dgS exp),(31,13,sec)])) 8 33 32 (fun _=>[0]) (fun _=>[]) mixed rfl (by kernel_rfl) (by kernel_rfl) rfl ?_
  refine AWm_make hT rfl (by kernel_rfl) (by decide) (qBo rfl) rfl ?_
  refine qAy (by decide) (by decide) (qAj rfl) ?_
  refine wwg ?_
  refine qAy (by decide) (by decide) (qAj rfl) ?_
  refine wwg ?_
  refine qBm hT rfl 0 rfl hmt hit rfl rfl rfl rfl rfl rfl (by kernel_rfl) rfl ?_
  refine qAy (by decide) (by decide) (qAj rfl) ?_
  refine wwg ?_
  refine qAy (by decide) (by decide) (qAj rfl) ?_
  refine wwg ?_
  refine qBm hT rfl 1 rfl hmt hit rfl rfl rfl rfl rfl rfl (by kernel_rfl) rfl ?_
  refine qAy (by decide) (by decide) (qAj rfl) ?_
  refine wwg ?_
  refine qBm hT rfl 2 rfl hmt hit rfl rfl rfl rfl rfl rfl (by kernel_rfl) rfl ?_
  refine qAy (by decide) (by decide) (qAj rfl) ?_
  refine wwg ?_
  refine qAy (by decide) (by decide) (qAj rfl) ?_
  refine wwg ?_
  refine qBm hT rfl 3 rfl hmt hit rfl rfl rfl rfl rfl rfl (by kernel_rfl) rfl ?_
  refine qAy (by decide) (by decide) (qAj rfl) ?_
  refine wwg ?_
  refine qAy (by decide) (by decide) (qAj rfl) ?_
  refine wwg ?_
  refine qBm hT rfl 4 rfl hmt hit rfl rfl rfl rfl rfl rfl (by kernel_rfl) rfl ?_
  refine qAy (by decide) (by decide) (qAj rfl) ?_
  refine wwg ?_
  refine qAy (by decide) (by decide) (qAj rfl) ?_
  refine wwg ?_
  refine qAy (by decide) (by decide) (qAj rfl) ?_
  refine wwdc hd1 ?_
  refine wwg ?_
  refine qBm hT rfl 5 rfl hmt hit rfl rfl rfl rfl rfl rfl (by kernel_rfl) rfl ?_
  refine qAy (by decide) (by decide) (qAj rfl) ?_
  refine wwg ?_
  refine qAy (by decide) (by decide) (qAj rfl) ?_
  refine wwg ?_
  refine qBm hT rfl 6 rfl hmt hit rfl rfl rfl rfl rfl rfl (by kernel_rfl) rfl ?_
  refine qAy (by decide) (by decide) (qAj rfl) ?_
  refine wwg ?_
  refine qAy (by decide) (by decide) (qAj rfl) ?_
  refine wwg ?_
  refine qBm hT rfl 7 rfl hmt hit rfl rfl rfl rfl rfl rfl (by kernel_rfl) rfl ?_
  refine qAy (by decide) (by decide) (qAj rfl) ?_
  refine wwg ?_
  refine qAy (by decide) (by decide) (qAj rfl) ?_
  refine wwg ?_
  refine qAy (by decide) (by decide) (qAj rfl) ?_
  refine wwdc hd2 ?_
  refine wwg ?_
  refine qBm hT rfl 8 rfl hmt hit rfl rfl rfl rfl rfl rfl (by kernel_rfl) rfl ?_
  refine qAy (by decide) (by decide) (qAj rfl) ?_
  refine wwg ?_
  refine qAy (by decide) (by decide) (qAj rfl) ?_
  refine wwg ?_
  refine qBm hT rfl 9 rfl hmt hit rfl rfl rfl rfl rfl rfl (by kernel_rfl) rfl ?_
  refine qAy (by decide) (by decide) (qAj rfl) ?_
  refine wwg ?_
  refine AWm_range (it:=9) rfl hmt rfl rfl rfl rfl rfl rfl rfl ?_
  intro bm es clock hA
  have hAm:MapIs (mapA [(3,0,kind),(6,1,state),(8,2,name),(11,5,nat),(14,6,bir),(18,7,dgS bir),(21,8,sex),(24,9,exp),(28,10,dgS exp),(31,13,sec)]) es clock:=hA
  refine ww ?_
  refine qAq (ι:=Array Nat×(Nat→List UInt8)) (fun x=>[(1,.ptr 0 0),(8,.ptr 2 0),(81,.ptr 9 0)]) (fun x=>[.row [.d (.int .i64 2),.d (.str kind),.d (.str state),.d (.str sur),.d (.str giv),.d (.str num),.d (.str nat),.d (.str bir),.d (.str sex),.d (.str exp),.d (.str opt),.d (.str sec)],.dead,.row (shB (layD 2) 2),.buf 1 2 [.rx 4 0 36,.rx 5 0 36],.row (byteAV (lineF (segsZ 2 0) x.2)),.row (byteAV (lineF (segsZ 2 1) x.2)),.dead,.dead,.opq (mapC bm es clock),.opq (iterC bm clock x.1 clock)]) (fun x=>MapInv [(3,0,kind),(6,1,state),(8,2,name),(11,5,nat),(14,6,bir),(18,7,dgS bir),(21,8,sex),(24,9,exp),(28,10,dgS exp),(31,13,sec)] es x) (fun x=>(leftOf es x.1).size) (#[],fun _=>[]) (MapInv.init _ _) ⟨.refl _,.refl _,.refl _,trivial⟩ (HLe.refl _) ?_
  rintro ⟨seen,F⟩ hinv
  simp only
  refine ww ?_
  refine AWk_opR (next_ok (m:=8) hAm hflat rfl rfl rfl rfl) rfl ?_
  rintro u k (⟨h0',rfl,rfl⟩ | ⟨e,p,he,hp,e1,e2,rfl,rfl⟩)
  ·have hFF:=hinv.done (by kernel_rfl) hAm h0'
   subst hFF
   refine ww ?_
   refine qAa rfl (fun c3=>?_) (fun c3=>?_)
   ·exact absurd c3 (by simp)
   refine ww ?_
   exact ⟨(),trivial,⟨.refl _,.refl _,trivial⟩,⟨.refl _,.refl _,.refl _,.refl _,.refl _,.refl _,trivial,trivial,trivial,trivial,trivial⟩⟩
  ·obtain ⟨y,hy,rfl⟩:=List.mem_map.1 hp
   obtain ⟨i,hi15,hyi⟩:=hkeys y hy
   have hys:=hlen y hy
   have hst:=hinv.step (by kernel_rfl) hAm (mem_left he).1 hy hyi (by rw [e1];simp only [flatV];rw [hyi]) e2
   have hsm:=left_shrinks es seen e he
   obtain ⟨ix,n,s⟩:=y
   simp only at hyi hys hst e1 e2
   subst hyi
   simp only
   refine ww ?_
   refine qAa rfl (fun c3=>?_) (fun c3=>?_)
   rotate_left
   ·exact absurd c3 (by simp)
   refine ww ?_
   refine qAd (entry_ok (m:=8) (e:=e) (p:=(.int .i64 (i:Int),.str s)) hAm ⟨rfl,rfl⟩ rfl rfl rfl rfl (mem_left he).1 e1 e2) rfl ?_
   refine ww ?_
   refine qAd (call2 (F:=F) (F':=updF F i s) rfl rfl (qBx 2 36 (.inl ⟨rfl,rfl⟩) F i hi15 s hys) rfl rfl rfl rfl rfl) rfl ?_
   refine ww ?_
   exact ⟨(seen.push e.born,updF F i s),hst,hsm,⟨.refl _,.refl _,.refl _,trivial⟩,HLe.refl _⟩
 ·intro _ _
  have hd3:=fun s hs=>qBw s hs
  obtain ⟨g1,g2,g3,g4,g5,g6,g7,g8,g9,g10,g11⟩:=hz
  simp only at g1 g2 g3 g4 g5 g6 g7 g8 g9 g10 g11
  have hdn:=qBc num
  generalize hG:FK [(3,0,kind),(6,1,state),(8,2,name),(11,5,nat),(14,6,bir),(18,7,dgS bir),(21,8,sex),(24,9,exp),(28,10,dgS exp),(31,13,sec)]=G
  generalize hG1:(if num.length > 9 then updF (updF G 3 (num.take 9)) 11 (num.drop 9++dgS num++[60]++opt) else updF (updF (updF G 3 num) 4 (dgS (fitW 9 num))) 11 opt)=G1
  refine qBa (ι:=Unit) (fun _=>[(1,.ptr 0 0),(8,.ptr 2 0)]) (fun _=>[.row [.d (.int .i64 2),.d (.str kind),.d (.str state),.d (.str sur),.d (.str giv),.d (.str num),.d (.str nat),.d (.str bir),.d (.str sex),.d (.str exp),.d (.str opt),.d (.str sec)],.dead,.row (shB (layD 2) 2),.buf 1 2 [.rx 4 0 36,.rx 5 0 36],.row (byteAV (lineF (segsZ 2 0) G1)),.row (byteAV (lineF (segsZ 2 1) G1)),.dead,.dead,.dead,.dead]) (fun _=>True) ?_ ?_
  ·refine ww ?_
   refine qAa rfl (fun d1=>?_) (fun d1=>?_)
   ·have dl:num.length > 9:=by have h3:(9:Int) < (num.length:Int):=(by simpa using d1);omega
    rw [if_pos dl] at hG1
    subst hG1
    have hdg:=hd3 num (by omega)
    have hdl:num.length-9+(digitF num).1.length≤100000:=by omega
    refine ww ?_
    refine qAd (call2 (F:=G) (F':=updF G 3 (num.take 9)) rfl rfl (qBx 2 36 (.inl ⟨rfl,rfl⟩) G 3 (by omega) (num.take 9) (by simp;omega)) rfl rfl rfl rfl rfl) rfl ?_
    refine wwn ?_
    refine qBg (fun i=>bif Nat.beq i 12 then [2,3,4,5] else [0]) (fun i=>bif Nat.beq i 12 then [2,3,4,5] else []) mixed (by kernel_rfl) ?_
    refine wwg ?_
    refine wwdc hdg ?_
    refine wwg ?_
    refine qAs (v:=.tup []) (os:=HC2 2 36 (updF (updF G 3 (num.take 9)) 11 (num.drop 9++dgS num++[60]++opt))) (fun kk hk1 hk2=>call2 (F:=updF G 3 (num.take 9)) rfl rfl (qBx 2 36 (.inl ⟨rfl,rfl⟩) (updF G 3 (num.take 9)) 11 (by omega) (num.drop 9++dgS num++[60]++opt) (by simp [dgS];omega)) (by simp only [List.map_cons,List.map_nil,hk2 2 (by decide),hk2 3 (by decide),hk2 4 (by decide),hk2 5 (by decide)];rfl) rfl rfl rfl rfl) rfl ?_
    refine wwg ?_
    exact ⟨(),trivial,⟨.refl _,.refl _,trivial⟩,HLe.refl _⟩
   ·have dl:¬ num.length > 9:=by have h3:(num.length:Int)≤9:=(by simpa using d1);omega
    rw [if_neg dl] at hG1
    subst hG1
    have hdg:=hd3 (fitW 9 num) (by rw [qBb];omega)
    have hdl:=qBc (fitW 9 num)
    refine ww ?_
    refine qAd (call2 (F:=G) (F':=updF G 3 num) rfl rfl (qBx 2 36 (.inl ⟨rfl,rfl⟩) G 3 (by omega) num (by omega)) rfl rfl rfl rfl rfl) rfl ?_
    refine ww ?_
    refine qAd (call2 (F:=updF G 3 num) (F':=updF G 3 num) (r0:=.d (.str (fitW 9 num))) rfl rfl (get2_spec 2 36 (.inl ⟨rfl,rfl⟩) (updF G 3 num) 3 (.inl rfl)) rfl rfl rfl rfl rfl) rfl ?_
    refine wwc hdg ?_
    refine ww ?_
    refine qAd (call2 (F:=updF G 3 num) (F':=updF (updF G 3 num) 4 (dgS (fitW 9 num))) rfl rfl (qBx 2 36 (.inl ⟨rfl,rfl⟩) (updF G 3 num) 4 (by omega) (dgS (fitW 9 num)) (by show (digitF (fitW 9 num)).1.length≤_;omega)) rfl rfl rfl rfl rfl) rfl ?_
    refine ww ?_
    refine qAd (call2 (F:=updF (updF G 3 num) 4 (dgS (fitW 9 num))) (F':=updF (updF (updF G 3 num) 4 (dgS (fitW 9 num))) 11 opt) rfl rfl (qBx 2 36 (.inl ⟨rfl,rfl⟩) (updF (updF G 3 num) 4 (dgS (fitW 9 num))) 11 (by omega) opt (by omega)) rfl rfl rfl rfl rfl) rfl ?_
    refine ww ?_
    exact ⟨(),trivial,⟨.refl _,.refl _,trivial⟩,HLe.refl _⟩
  ·intro _ _
   generalize hG2:(if opt=[] then G1 else updF G1 12 (dgS (fitW 7 (G1 11))))=G2
   refine qBa (ι:=Unit) (fun _=>[(1,.ptr 0 0),(8,.ptr 2 0)]) (fun _=>[.row [.d (.int .i64 2),.d (.str kind),.d (.str state),.d (.str sur),.d (.str giv),.d (.str num),.d (.str nat),.d (.str bir),.d (.str sex),.d (.str exp),.d (.str opt),.d (.str sec)],.dead,.row (shB (layD 2) 2),.buf 1 2 [.rx 4 0 36,.rx 5 0 36],.row (byteAV (lineF (segsZ 2 0) G2)),.row (byteAV (lineF (segsZ 2 1) G2)),.dead,.dead,.dead,.dead]) (fun _=>True) ?_ ?_
   ·refine ww ?_
    refine qAa rfl (fun d2=>?_) (fun d2=>?_)
    ·have dl:opt≠[]:=by simpa using d2
     rw [if_neg dl] at hG2
     subst hG2
     have hdg:=hd3 (fitW 7 (G1 11)) (by rw [qBb];omega)
     have hdl:=qBc (fitW 7 (G1 11))
     refine ww ?_
     refine qAd (call2 (F:=G1) (F':=G1) (r0:=.d (.str (fitW 7 (G1 11)))) rfl rfl (get2_spec 2 36 (.inl ⟨rfl,rfl⟩) G1 11 (.inr rfl)) rfl rfl rfl rfl rfl) rfl ?_
     refine wwc hdg ?_
     refine ww ?_
     refine qAd (call2 (F:=G1) (F':=updF G1 12 (dgS (fitW 7 (G1 11)))) rfl rfl (qBx 2 36 (.inl ⟨rfl,rfl⟩) G1 12 (by omega) (dgS (fitW 7 (G1 11))) (by show (digitF (fitW 7 (G1 11))).1.length≤_;omega)) rfl rfl rfl rfl rfl) rfl ?_
     refine ww ?_
     exact ⟨(),trivial,⟨.refl _,.refl _,trivial⟩,HLe.refl _⟩
    ·have dl:opt=[]:=by simpa using d2
     rw [if_pos dl] at hG2
     subst hG2
     refine ww ?_
     exact ⟨(),trivial,⟨.refl _,.refl _,trivial⟩,HLe.refl _⟩
   intro _ _
   generalize hs:compG [lineF (segsZ 2 0) G2,lineF (segsZ 2 1) G2]=s
   have hsl:s.length≤1000:=by rw [← hs];exact comp_len2 (by decide) (qAx G2 _)
   have k2:∀ j,j≠12→G2 j=G1 j:=fun j hj=>by
    rw [← hG2]
    split
    ·rfl
    ·unfold updF;rw [if_neg hj]
   have k1:∀ j,j≠3→j≠4→j≠11→G1 j=G j:=fun j h3 h4 h11=>by
    rw [← hG1]
    split
    ·unfold updF;rw [if_neg h11,if_neg h3]
    ·unfold updF;rw [if_neg h11,if_neg h4,if_neg h3]
   have k0:∀ j,j≠3→j≠4→j≠11→j≠12→G2 j=FK [(3,0,kind),(6,1,state),(8,2,name),(11,5,nat),(14,6,bir),(18,7,dgS bir),(21,8,sex),(24,9,exp),(28,10,dgS exp),(31,13,sec)] j:=fun j h3 h4 h11 h12=>by rw [k2 j h12,k1 j h3 h4 h11,← hG]
   have e4:G 4=[]:=by rw [← hG];rfl
   have e12:G1 12=[]:=by rw [k1 12 (by omega) (by omega) (by omega),← hG];rfl
   have hroom:=ok.opt.1
   have hmost:=ok.num.2.1
   unfold roomF at hroom
   unfold mostN at hmost
   simp only at hroom hmost
   have e11:G1 11=if num.length > 9 then num.drop 9++dgS num++[60]++opt else opt:=by rw [← hG1];split <;> rfl
   have hwd:(opt.length:Int)+((if num.length≤9 then 0 else num.length-9+2:Nat):Int)≤((7:Nat):Int):=by
    by_cases hc:num.length≤9
    ·rw [if_pos hc]
     rw [if_neg (show ¬ num.length > 9 by omega)] at hroom
     simp at hroom ⊢
     omega
    ·rw [if_neg hc]
     rw [if_pos (show num.length > 9 by omega)] at hroom
     simp at hroom ⊢
     omega
   have hlaid:Laid ⟨2,kind,state,sur,giv,num,nat,bir,sex,exp,opt,sec⟩ G2 7:=laid_of ok hwd
    (k0 0 (by omega) (by omega) (by omega) (by omega)) (k0 1 (by omega) (by omega) (by omega) (by omega)) (k0 5 (by omega) (by omega) (by omega) (by omega)) (k0 6 (by omega) (by omega) (by omega) (by omega)) (k0 7 (by omega) (by omega) (by omega) (by omega)) (k0 8 (by omega) (by omega) (by omega) (by omega)) (k0 9 (by omega) (by omega) (by omega) (by omega)) (k0 10 (by omega) (by omega) (by omega) (by omega))
    (by rw [k2 3 (by omega),← hG1];split <;> rfl) (by rw [k2 4 (by omega),← hG1];split;exact e4;rfl) (by rw [k2 11 (by omega)];exact e11)
   have hlines:[lineF (segsZ 2 0) (updF G2 14 (dgS s)),lineF (segsZ 2 1) (updF G2 14 (dgS s))]=buildZ ⟨2,kind,state,sur,giv,num,nat,bir,sex,exp,opt,sec⟩:=lines_small ok rfl hlaid (by rw [k0 2 (by omega) (by omega) (by omega) (by omega)];simp only;rw [hnm];rfl) (by simp only;rw [hnm];exact hNl) s hs.symm
   have hcs:=comp2_spec 2 36 (.inl ⟨rfl,rfl⟩) G2
   rw [hs] at hcs
   have hdg:=hd3 s (by omega)
   have hdl:=qBc s
   refine ww ?_
   refine qAd (call2 (F:=G2) (F':=G2) (r0:=.d (.str s)) rfl rfl hcs rfl rfl rfl rfl rfl) rfl ?_
   refine wwc hdg ?_
   refine ww ?_
   refine qAd (call2 (F:=G2) (F':=updF G2 14 (dgS s)) rfl rfl (qBx 2 36 (.inl ⟨rfl,rfl⟩) G2 14 (by omega) (dgS s) (by show (digitF s).1.length≤_;omega)) rfl rfl rfl rfl rfl) rfl ?_
   generalize updF G2 14 (dgS s)=G3 at hlines ⊢
   refine ww ?_
   refine qAo ?_
   refine qBh 13 1 10 (es:=[]) (.inr ⟨rfl,rfl⟩) rfl ?_
   refine qAq (ι:=Nat) (fun i=>[(142,.bm 3 2),(143,.d (.int .i64 2)),(144,.d (.int .i64 (i:Int))),(13,.sl 1 (encSs ([lineF (segsZ 2 0) G3,lineF (segsZ 2 1) G3].take i)) (.right 10))]) (fun i=>[.row [.d (.int .i64 2),.d (.str kind),.d (.str state),.d (.str sur),.d (.str giv),.d (.str num),.d (.str nat),.d (.str bir),.d (.str sex),.d (.str exp),.d (.str opt),.d (.str sec)],.dead,.row (shB (layD 2) 2),.buf 1 2 [.rx 4 0 36,.rx 5 0 36],.row (byteAV (lineF (segsZ 2 0) G3)),.row (byteAV (lineF (segsZ 2 1) G3)),.dead,.dead,.dead,.dead,.right 1 i]) (fun i=>i≤2) (fun i=>2-i) 0 (by omega) ⟨.refl _,.refl _,.refl _,.refl _,trivial⟩ (HLe.refl _) ?_
   intro i hi
   refine ww ?_
   refine qAa rfl (fun c5=>?_) (fun c5=>?_)
   ·have hi3:i=0∨i=1:=by have h3:(i:Int) < 2:=(by simpa using c5);omega
    rcases hi3 with rfl | rfl
    ·refine ww ?_
     refine qAd (qAc (qBe (sz:=1) hT rfl rfl rfl rfl (by omega))) rfl ?_
     refine qAd (v:=.rx 4 0 36) (qBl hT rfl rfl rfl rfl rfl rfl) rfl ?_
     refine ww ?_
     refine qAd (qDh (s:=lineF (segsZ 2 0) G3) hT rfl rfl rfl (by omega) rfl (qAx G3 _) (rx_all _)) rfl ?_
     refine ww ?_
     refine qAd (qAk (i:=10) hT rfl rfl rfl rfl rfl rfl (by show (0+1)*(16+1)≤140737488355328;omega)) rfl ?_
     refine ww ?_
     exact ⟨1,by omega,by omega,⟨.refl _,.refl _,.refl _,.refl _,trivial⟩,HLe.refl _⟩
    ·refine ww ?_
     refine qAd (qAc (qBe (sz:=1) hT rfl rfl rfl rfl (by omega))) rfl ?_
     refine qAd (v:=.rx 5 0 36) (qBl hT rfl rfl rfl rfl rfl rfl) rfl ?_
     refine ww ?_
     refine qAd (qDh (s:=lineF (segsZ 2 1) G3) hT rfl rfl rfl (by omega) rfl (qAx G3 _) (rx_all _)) rfl ?_
     refine ww ?_
     refine qAd (qAk (i:=10) hT rfl rfl rfl rfl rfl rfl (by show (1+1)*(16+1)≤140737488355328;omega)) rfl ?_
     refine ww ?_
     exact ⟨2,by omega,by omega,⟨.refl _,.refl _,.refl _,.refl _,trivial⟩,HLe.refl _⟩
   have hi':i=2:=by have h3:¬ ((i:Int) < 2):=(by simpa using c5);omega
   subst hi'
   refine ww ?_
   exact rq ⟨rfl,rfl⟩ rfl (AV.le.tup ⟨AV.le.dat' (by rw [← hlines];rfl),.refl _,trivial⟩)
end Tdoc
namespace Tdoc
open Go Go.Proofs
def HLbook (zc:List AV) (i:Nat):List AObj:=match i with
 | 0=>[.row zc,.row (intsA (layD 3)),.row (intsA (layD 3)++[.sl 1 [] .full]),.room,.room,.room,.room,.room,.room,.room]
 | 1=>[.row zc,.row (intsA (layD 3)),.row (intsA (layD 3)++[.bm 3 1]),.buf 1 1 [.rx 4 0 44],.row (byteAV (List.replicate 44 60)),.room,.dead,.room,.room,.room]
 | _=>[.row zc,.row (intsA (layD 3)),.row (intsA (layD 3)++[.bm 3 2]),.buf 1 2 [.rx 4 0 44,.rx 5 0 44],.row (byteAV (List.replicate 44 60)),.row (byteAV (List.replicate 44 60)),.dead,.dead,.room,.room]
theorem BuildP_book (z:Zon) (hz:zLen z) (h0:validZ z=0) (hf:z.fmt=3):Spec Tryz.prog 65 [zAV z] [] (fun r h'=>r=.tup [.d (.sl 1 (encSs (buildZ z))),.d (.int .i64 0)]∧h'=[]):=by
 have hv:=ZValid_spec z hz
 have hlay:Spec Tryz.prog 120 [.d (.int .i64 3)] [] (fun r h'=>r=.tup [.agg (intsA (layD 3)),.d (.int .i64 2),.d (.int .i64 44)]∧h'=[]):=qCv 3
 have hR:Spec Tryz.prog 121 [.d (.str [60]),.d (.int .i64 44)] [] (fun r h'=>r=.d (.str (List.replicate 44 60))∧h'=[]):=qBz 44 (by omega)
 have hNm:=NamesP_spec z.sur z.giv 39 (by have:=hz.2.2.1;omega) (by have:=hz.2.2.2.1;omega)
 have hNl:=namesF_ok h0 (w:=39) (by omega)
 have hd1:Spec Tryz.prog 123 [.d (.str z.bir)] [] (fun r h'=>r=.d (.str (dgS z.bir))∧h'=[]):=qBw z.bir (by have:=hz.2.2.2.2.2.2.1;omega)
 have hd2:Spec Tryz.prog 123 [.d (.str z.exp)] [] (fun r h'=>r=.d (.str (dgS z.exp))∧h'=[]):=qBw z.exp (by have:=hz.2.2.2.2.2.2.2.2.1;omega)
 rw [h0] at hv
 have ok:=validZ_ok h0
 obtain ⟨fmt,kind,state,sur,giv,num,nat,bir,sex,exp,opt,sec⟩:=z
 unfold zAV zCells at hv ⊢
 simp only at hv hf hNm hNl hd1 hd2 ⊢
 subst hf
 generalize hnm:namesF sur giv 39=nm at hNm hNl
 obtain ⟨name,ne⟩:=nm
 simp only at hNm hNl
 have hkeys:∀ y∈([(3,0,kind),(6,1,state),(8,2,name),(11,5,nat),(14,6,bir),(18,7,dgS bir),(21,8,sex),(24,9,exp),(28,10,dgS exp),(31,13,sec)]:Ins),∃ i:Nat,i < 15∧y.2.1=(i:Int):=fun y hy=>by
  simp only [List.mem_cons,List.not_mem_nil,or_false] at hy
  rcases hy with rfl | rfl | rfl | rfl | rfl | rfl | rfl | rfl | rfl | rfl
  ·exact ⟨0,by omega,rfl⟩
  ·exact ⟨1,by omega,rfl⟩
  ·exact ⟨2,by omega,rfl⟩
  ·exact ⟨5,by omega,rfl⟩
  ·exact ⟨6,by omega,rfl⟩
  ·exact ⟨7,by omega,rfl⟩
  ·exact ⟨8,by omega,rfl⟩
  ·exact ⟨9,by omega,rfl⟩
  ·exact ⟨10,by omega,rfl⟩
  ·exact ⟨13,by omega,rfl⟩
 have hlen:∀ y∈([(3,0,kind),(6,1,state),(8,2,name),(11,5,nat),(14,6,bir),(18,7,dgS bir),(21,8,sex),(24,9,exp),(28,10,dgS exp),(31,13,sec)]:Ins),y.2.2.length≤100000:=fun y hy=>by
  have hb1:=qBc bir
  have hb2:=qBc exp
  obtain ⟨g1,g2,g3,g4,g5,g6,g7,g8,g9,g10,g11⟩:=hz
  simp only at g1 g2 g3 g4 g5 g6 g7 g8 g9 g10 g11
  simp only [List.mem_cons,List.not_mem_nil,or_false] at hy
  rcases hy with rfl | rfl | rfl | rfl | rfl | rfl | rfl | rfl | rfl | rfl <;> simp only [dgS] <;> omega
 have hflat:∀ p,p∈mapA [(3,0,kind),(6,1,state),(8,2,name),(11,5,nat),(14,6,bir),(18,7,dgS bir),(21,8,sex),(24,9,exp),(28,10,dgS exp),(31,13,sec)]→isFlat p.1=true∧isFlat p.2=true:=fun p hp=>by obtain ⟨y,_,rfl⟩:=List.mem_map.1 hp;exact ⟨rfl,rfl⟩
 refine qAb hT Tryz.func65 rfl rfl rfl rfl ?_;intro E hE
 refine ww ?_
 refine wwc hv ?_
 refine ww ?_
 refine qAa rfl (fun c1=>?_) (fun c1=>?_)
 ·exact absurd c1 (by simp)
 refine ww ?_
 refine wwc hlay ?_
 refine ww ?_
 refine qAo ?_
 refine qAo ?_
 refine qAo ?_
 refine qAo ?_
 refine qAo ?_
 refine qAo ?_
 refine qAo ?_
 refine qAq (ι:=Nat) (fun i=>[(1,.ptr 0 0),(5,.ptr 1 0),(7,.d (.int .i64 44)),(8,.ptr 2 0),(31,.d (.int .i64 2)),(32,.d (.int .i64 (i:Int)))]) (fun i=>HLbook [.d (.int .i64 3),.d (.str kind),.d (.str state),.d (.str sur),.d (.str giv),.d (.str num),.d (.str nat),.d (.str bir),.d (.str sex),.d (.str exp),.d (.str opt),.d (.str sec)] i) (fun i=>i≤2) (fun i=>2-i) 0 (by omega) ⟨.refl _,.refl _,.refl _,.refl _,.refl _,.refl _,trivial⟩ (HLe.refl _) ?_
 intro i hi
 refine ww ?_
 refine qAa rfl (fun c2=>?_) (fun c2=>?_)
 ·have hi3:i=0∨i=1:=by have h3:(i:Int) < 2:=(by simpa using c2);omega
  rcases hi3 with rfl | rfl
  ·refine wwn ?_
   refine qBg (fun i=>bif Nat.beq i 4 then [2] else bif Nat.beq i 7 then [4] else bif Nat.beq i 8 then [6] else bif Nat.beq i 9 then [3,6] else bif Nat.beq i 12 then [2] else []) (fun i=>bif Nat.beq i 7 then [4] else bif Nat.beq i 8 then [6] else bif Nat.beq i 9 then [3] else bif Nat.beq i 12 then [2] else []) mixed (by kernel_rfl) ?_
   refine wwg ?_
   refine wwdc hR ?_
   refine qAs (v:=.rx 4 0 44) (os:=[.row (byteAV (List.replicate 44 60))]) (fun kk hk1 hk2=>strRx_ok (s:=List.replicate 44 60) hT rfl rfl rfl ((hk2 4 List.mem_cons_self).trans rfl)) rfl ?_
   refine qAs (v:=.row 6 0 1 1) (os:=[.row [.rx 4 0 44]]) (fun kk hk1 hk2=>qBt hT rfl rfl ((hk2 6 List.mem_cons_self).trans rfl)) rfl ?_
   refine qAs (v:=.bm 3 1) (os:=[.buf 1 1 [.rx 4 0 44]]) (fun kk hk1 hk2=>bufAppRow0_ok hT rfl rfl rfl (.inl rfl) (by intro h;cases h) ((hk2 3 List.mem_cons_self).trans rfl) rfl ((hk2 6 (List.mem_cons_of_mem _ List.mem_cons_self)).trans rfl) rfl (by decide)) rfl ?_
   refine wwg ?_
   refine ww ?_
   exact ⟨1,by omega,by omega,⟨.refl _,.refl _,.refl _,.refl _,.refl _,.refl _,trivial⟩,⟨.refl _,.refl _,.refl _,.refl _,.refl _,.refl _,trivial,.refl _,.refl _,.refl _,trivial⟩⟩
  ·refine wwn ?_
   refine qBg (fun i=>bif Nat.beq i 4 then [2] else bif Nat.beq i 7 then [5] else bif Nat.beq i 8 then [7] else bif Nat.beq i 9 then [3,7] else bif Nat.beq i 12 then [2] else []) (fun i=>bif Nat.beq i 7 then [5] else bif Nat.beq i 8 then [7] else bif Nat.beq i 9 then [3] else bif Nat.beq i 12 then [2] else []) mixed (by kernel_rfl) ?_
   refine wwg ?_
   refine wwdc hR ?_
   refine qAs (v:=.rx 5 0 44) (os:=[.row (byteAV (List.replicate 44 60))]) (fun kk hk1 hk2=>strRx_ok (s:=List.replicate 44 60) hT rfl rfl rfl ((hk2 5 List.mem_cons_self).trans rfl)) rfl ?_
   refine qAs (v:=.row 7 0 1 1) (os:=[.row [.rx 5 0 44]]) (fun kk hk1 hk2=>qBt hT rfl rfl ((hk2 7 List.mem_cons_self).trans rfl)) rfl ?_
   refine qAs (v:=.bm 3 2) (os:=[.buf 1 2 [.rx 4 0 44,.rx 5 0 44]]) (fun kk hk1 hk2=>bufAppRow_ok hT rfl rfl rfl rfl ((hk2 3 List.mem_cons_self).trans rfl) rfl ((hk2 7 (List.mem_cons_of_mem _ List.mem_cons_self)).trans rfl) rfl (by decide)) rfl ?_
   refine wwg ?_
   refine ww ?_
   exact ⟨2,by omega,by omega,⟨.refl _,.refl _,.refl _,.refl _,.refl _,.refl _,trivial⟩,⟨.refl _,.refl _,.refl _,.refl _,.refl _,.refl _,trivial,trivial,.refl _,.refl _,trivial⟩⟩
 have hi':i=2:=by have h3:¬ ((i:Int) < 2):=(by simpa using c2);omega
 subst hi'
 refine ww ?_
 first | refine qAd (qAc (qAh hT rfl rfl rfl rfl (by decide))) rfl ?_ | refine qAp (qAc (qAh hT rfl rfl rfl rfl (by decide))) rfl rfl ?_
 refine ww ?_
 refine wwc hNm ?_
 refine wws ?_
 refine qDm (l:=[(1,.ptr 0 0),(8,.ptr 2 0),(9,.d (.str name))]) (h':=[.row [.d (.int .i64 3),.d (.str kind),.d (.str state),.d (.str sur),.d (.str giv),.d (.str num),.d (.str nat),.d (.str bir),.d (.str sex),.d (.str exp),.d (.str opt),.d (.str sec)],.dead,.row (shB (layD 3) 2),.buf 1 2 [.rx 4 0 44,.rx 5 0 44],.row (byteAV (lineF (segsZ 3 0) (fun _=>[]))),.row (byteAV (lineF (segsZ 3 1) (fun _=>[]))),.dead,.dead,.room,.room]) ⟨.refl _,.refl _,.refl _,trivial⟩ ⟨.refl _,trivial,.refl _,.refl _,ObLe.row rfl,ObLe.row rfl,trivial,trivial,.refl _,.refl _,trivial⟩ ?_
 refine qBa (ι:=Unit) (fun _=>[(1,.ptr 0 0),(8,.ptr 2 0)]) (fun _=>[.row [.d (.int .i64 3),.d (.str kind),.d (.str state),.d (.str sur),.d (.str giv),.d (.str num),.d (.str nat),.d (.str bir),.d (.str sex),.d (.str exp),.d (.str opt),.d (.str sec)],.dead,.row (shB (layD 3) 2),.buf 1 2 [.rx 4 0 44,.rx 5 0 44],.row (byteAV (lineF (segsZ 3 0) (FK [(3,0,kind),(6,1,state),(8,2,name),(11,5,nat),(14,6,bir),(18,7,dgS bir),(21,8,sex),(24,9,exp),(28,10,dgS exp),(31,13,sec)]))),.row (byteAV (lineF (segsZ 3 1) (FK [(3,0,kind),(6,1,state),(8,2,name),(11,5,nat),(14,6,bir),(18,7,dgS bir),(21,8,sex),(24,9,exp),(28,10,dgS exp),(31,13,sec)]))),.dead,.dead,.dead,.dead]) (fun _=>True) ?_ ?_
 ·refine qAu ?_
  refine AW_drawM (mapM 0 (insS [(3,0,kind),(6,1,state),(8,2,name),(11,5,nat),(14,6,bir),(18,7,dgS bir),(21,8,sex),(24,9,exp),(28,10,dgS exp),(31,13,sec)])) 8 33 32 (fun _=>[0]) (fun _=>[]) mixed rfl (by kernel_rfl) (by kernel_rfl) rfl ?_
  refine AWm_make hT rfl (by kernel_rfl) (by decide) (qBo rfl) rfl ?_
  refine qAy (by decide) (by decide) (qAj rfl) ?_
  refine wwg ?_
  refine qAy (by decide) (by decide) (qAj rfl) ?_
  refine wwg ?_
  refine qBm hT rfl 0 rfl hmt hit rfl rfl rfl rfl rfl rfl (by kernel_rfl) rfl ?_
  refine qAy (by decide) (by decide) (qAj rfl) ?_
  refine wwg ?_
  refine qAy (by decide) (by decide) (qAj rfl) ?_
  refine wwg ?_
  refine qBm hT rfl 1 rfl hmt hit rfl rfl rfl rfl rfl rfl (by kernel_rfl) rfl ?_
  refine qAy (by decide) (by decide) (qAj rfl) ?_
  refine wwg ?_
  refine qBm hT rfl 2 rfl hmt hit rfl rfl rfl rfl rfl rfl (by kernel_rfl) rfl ?_
  refine qAy (by decide) (by decide) (qAj rfl) ?_
  refine wwg ?_
  refine qAy (by decide) (by decide) (qAj rfl) ?_
  refine wwg ?_
  refine qBm hT rfl 3 rfl hmt hit rfl rfl rfl rfl rfl rfl (by kernel_rfl) rfl ?_
  refine qAy (by decide) (by decide) (qAj rfl) ?_
  refine wwg ?_
  refine qAy (by decide) (by decide) (qAj rfl) ?_
  refine wwg ?_
  refine qBm hT rfl 4 rfl hmt hit rfl rfl rfl rfl rfl rfl (by kernel_rfl) rfl ?_
  refine qAy (by decide) (by decide) (qAj rfl) ?_
  refine wwg ?_
  refine qAy (by decide) (by decide) (qAj rfl) ?_
  refine wwg ?_
  refine qAy (by decide) (by decide) (qAj rfl) ?_
  refine wwdc hd1 ?_
  refine wwg ?_
  refine qBm hT rfl 5 rfl hmt hit rfl rfl rfl rfl rfl rfl (by kernel_rfl) rfl ?_
  refine qAy (by decide) (by decide) (qAj rfl) ?_
  refine wwg ?_
  refine qAy (by decide) (by decide) (qAj rfl) ?_
  refine wwg ?_
  refine qBm hT rfl 6 rfl hmt hit rfl rfl rfl rfl rfl rfl (by kernel_rfl) rfl ?_
  refine qAy (by decide) (by decide) (qAj rfl) ?_
  refine wwg ?_
  refine qAy (by decide) (by decide) (qAj rfl) ?_
  refine wwg ?_
  refine qBm hT rfl 7 rfl hmt hit rfl rfl rfl rfl rfl rfl (by kernel_rfl) rfl ?_
  refine qAy (by decide) (by decide) (qAj rfl) ?_
  refine wwg ?_
  refine qAy (by decide) (by decide) (qAj rfl) ?_
  refine wwg ?_
  refine qAy (by decide) (by decide) (qAj rfl) ?_
  refine wwdc hd2 ?_
  refine wwg ?_
  refine qBm hT rfl 8 rfl hmt hit rfl rfl rfl rfl rfl rfl (by kernel_rfl) rfl ?_
  refine qAy (by decide) (by decide) (qAj rfl) ?_
  refine wwg ?_
  refine qAy (by decide) (by decide) (qAj rfl) ?_
  refine wwg ?_
  refine qBm hT rfl 9 rfl hmt hit rfl rfl rfl rfl rfl rfl (by kernel_rfl) rfl ?_
  refine qAy (by decide) (by decide) (qAj rfl) ?_
  refine wwg ?_
  refine AWm_range (it:=9) rfl hmt rfl rfl rfl rfl rfl rfl rfl ?_
  intro bm es clock hA
  have hAm:MapIs (mapA [(3,0,kind),(6,1,state),(8,2,name),(11,5,nat),(14,6,bir),(18,7,dgS bir),(21,8,sex),(24,9,exp),(28,10,dgS exp),(31,13,sec)]) es clock:=hA
  refine ww ?_
  refine qAq (ι:=Array Nat×(Nat→List UInt8)) (fun x=>[(1,.ptr 0 0),(8,.ptr 2 0),(81,.ptr 9 0)]) (fun x=>[.row [.d (.int .i64 3),.d (.str kind),.d (.str state),.d (.str sur),.d (.str giv),.d (.str num),.d (.str nat),.d (.str bir),.d (.str sex),.d (.str exp),.d (.str opt),.d (.str sec)],.dead,.row (shB (layD 3) 2),.buf 1 2 [.rx 4 0 44,.rx 5 0 44],.row (byteAV (lineF (segsZ 3 0) x.2)),.row (byteAV (lineF (segsZ 3 1) x.2)),.dead,.dead,.opq (mapC bm es clock),.opq (iterC bm clock x.1 clock)]) (fun x=>MapInv [(3,0,kind),(6,1,state),(8,2,name),(11,5,nat),(14,6,bir),(18,7,dgS bir),(21,8,sex),(24,9,exp),(28,10,dgS exp),(31,13,sec)] es x) (fun x=>(leftOf es x.1).size) (#[],fun _=>[]) (MapInv.init _ _) ⟨.refl _,.refl _,.refl _,trivial⟩ (HLe.refl _) ?_
  rintro ⟨seen,F⟩ hinv
  simp only
  refine ww ?_
  refine AWk_opR (next_ok (m:=8) hAm hflat rfl rfl rfl rfl) rfl ?_
  rintro u k (⟨h0',rfl,rfl⟩ | ⟨e,p,he,hp,e1,e2,rfl,rfl⟩)
  ·have hFF:=hinv.done (by kernel_rfl) hAm h0'
   subst hFF
   refine ww ?_
   refine qAa rfl (fun c3=>?_) (fun c3=>?_)
   ·exact absurd c3 (by simp)
   refine ww ?_
   exact ⟨(),trivial,⟨.refl _,.refl _,trivial⟩,⟨.refl _,.refl _,.refl _,.refl _,.refl _,.refl _,trivial,trivial,trivial,trivial,trivial⟩⟩
  ·obtain ⟨y,hy,rfl⟩:=List.mem_map.1 hp
   obtain ⟨i,hi15,hyi⟩:=hkeys y hy
   have hys:=hlen y hy
   have hst:=hinv.step (by kernel_rfl) hAm (mem_left he).1 hy hyi (by rw [e1];simp only [flatV];rw [hyi]) e2
   have hsm:=left_shrinks es seen e he
   obtain ⟨ix,n,s⟩:=y
   simp only at hyi hys hst e1 e2
   subst hyi
   simp only
   refine ww ?_
   refine qAa rfl (fun c3=>?_) (fun c3=>?_)
   rotate_left
   ·exact absurd c3 (by simp)
   refine ww ?_
   refine qAd (entry_ok (m:=8) (e:=e) (p:=(.int .i64 (i:Int),.str s)) hAm ⟨rfl,rfl⟩ rfl rfl rfl rfl (mem_left he).1 e1 e2) rfl ?_
   refine ww ?_
   refine qAd (call2 (F:=F) (F':=updF F i s) rfl rfl (qBx 3 44 (.inr ⟨rfl,rfl⟩) F i hi15 s hys) rfl rfl rfl rfl rfl) rfl ?_
   refine ww ?_
   exact ⟨(seen.push e.born,updF F i s),hst,hsm,⟨.refl _,.refl _,.refl _,trivial⟩,HLe.refl _⟩
 ·intro _ _
  have hd3:=fun s hs=>qBw s hs
  obtain ⟨g1,g2,g3,g4,g5,g6,g7,g8,g9,g10,g11⟩:=hz
  simp only at g1 g2 g3 g4 g5 g6 g7 g8 g9 g10 g11
  have hdn:=qBc num
  generalize hG:FK [(3,0,kind),(6,1,state),(8,2,name),(11,5,nat),(14,6,bir),(18,7,dgS bir),(21,8,sex),(24,9,exp),(28,10,dgS exp),(31,13,sec)]=G
  generalize hG1:(if num.length > 9 then updF (updF G 3 (num.take 9)) 11 (num.drop 9++dgS num++[60]++opt) else updF (updF (updF G 3 num) 4 (dgS (fitW 9 num))) 11 opt)=G1
  refine qBa (ι:=Unit) (fun _=>[(1,.ptr 0 0),(8,.ptr 2 0)]) (fun _=>[.row [.d (.int .i64 3),.d (.str kind),.d (.str state),.d (.str sur),.d (.str giv),.d (.str num),.d (.str nat),.d (.str bir),.d (.str sex),.d (.str exp),.d (.str opt),.d (.str sec)],.dead,.row (shB (layD 3) 2),.buf 1 2 [.rx 4 0 44,.rx 5 0 44],.row (byteAV (lineF (segsZ 3 0) G1)),.row (byteAV (lineF (segsZ 3 1) G1)),.dead,.dead,.dead,.dead]) (fun _=>True) ?_ ?_
  ·refine ww ?_
   refine qAa rfl (fun d1=>?_) (fun d1=>?_)
   ·have dl:num.length > 9:=by have h3:(9:Int) < (num.length:Int):=(by simpa using d1);omega
    rw [if_pos dl] at hG1
    subst hG1
    have hdg:=hd3 num (by omega)
    have hdl:num.length-9+(digitF num).1.length≤100000:=by omega
    refine ww ?_
    refine qAd (call2 (F:=G) (F':=updF G 3 (num.take 9)) rfl rfl (qBx 3 44 (.inr ⟨rfl,rfl⟩) G 3 (by omega) (num.take 9) (by simp;omega)) rfl rfl rfl rfl rfl) rfl ?_
    refine wwn ?_
    refine qBg (fun i=>bif Nat.beq i 12 then [2,3,4,5] else [0]) (fun i=>bif Nat.beq i 12 then [2,3,4,5] else []) mixed (by kernel_rfl) ?_
    refine wwg ?_
    refine wwdc hdg ?_
    refine wwg ?_
    refine qAs (v:=.tup []) (os:=HC2 3 44 (updF (updF G 3 (num.take 9)) 11 (num.drop 9++dgS num++[60]++opt))) (fun kk hk1 hk2=>call2 (F:=updF G 3 (num.take 9)) rfl rfl (qBx 3 44 (.inr ⟨rfl,rfl⟩) (updF G 3 (num.take 9)) 11 (by omega) (num.drop 9++dgS num++[60]++opt) (by simp [dgS];omega)) (by simp only [List.map_cons,List.map_nil,hk2 2 (by decide),hk2 3 (by decide),hk2 4 (by decide),hk2 5 (by decide)];rfl) rfl rfl rfl rfl) rfl ?_
    refine wwg ?_
    exact ⟨(),trivial,⟨.refl _,.refl _,trivial⟩,HLe.refl _⟩
   ·have dl:¬ num.length > 9:=by have h3:(num.length:Int)≤9:=(by simpa using d1);omega
    rw [if_neg dl] at hG1
    subst hG1
    have hdg:=hd3 (fitW 9 num) (by rw [qBb];omega)
    have hdl:=qBc (fitW 9 num)
    refine ww ?_
    refine qAd (call2 (F:=G) (F':=updF G 3 num) rfl rfl (qBx 3 44 (.inr ⟨rfl,rfl⟩) G 3 (by omega) num (by omega)) rfl rfl rfl rfl rfl) rfl ?_
    refine ww ?_
    refine qAd (call2 (F:=updF G 3 num) (F':=updF G 3 num) (r0:=.d (.str (fitW 9 num))) rfl rfl (get2_spec 3 44 (.inr ⟨rfl,rfl⟩) (updF G 3 num) 3 (.inl rfl)) rfl rfl rfl rfl rfl) rfl ?_
    refine wwc hdg ?_
    refine ww ?_
    refine qAd (call2 (F:=updF G 3 num) (F':=updF (updF G 3 num) 4 (dgS (fitW 9 num))) rfl rfl (qBx 3 44 (.inr ⟨rfl,rfl⟩) (updF G 3 num) 4 (by omega) (dgS (fitW 9 num)) (by show (digitF (fitW 9 num)).1.length≤_;omega)) rfl rfl rfl rfl rfl) rfl ?_
    refine ww ?_
    refine qAd (call2 (F:=updF (updF G 3 num) 4 (dgS (fitW 9 num))) (F':=updF (updF (updF G 3 num) 4 (dgS (fitW 9 num))) 11 opt) rfl rfl (qBx 3 44 (.inr ⟨rfl,rfl⟩) (updF (updF G 3 num) 4 (dgS (fitW 9 num))) 11 (by omega) opt (by omega)) rfl rfl rfl rfl rfl) rfl ?_
    refine ww ?_
    exact ⟨(),trivial,⟨.refl _,.refl _,trivial⟩,HLe.refl _⟩
  ·intro _ _
   generalize hG2:(if opt=[] then G1 else updF G1 12 (dgS (fitW 14 (G1 11))))=G2
   refine qBa (ι:=Unit) (fun _=>[(1,.ptr 0 0),(8,.ptr 2 0)]) (fun _=>[.row [.d (.int .i64 3),.d (.str kind),.d (.str state),.d (.str sur),.d (.str giv),.d (.str num),.d (.str nat),.d (.str bir),.d (.str sex),.d (.str exp),.d (.str opt),.d (.str sec)],.dead,.row (shB (layD 3) 2),.buf 1 2 [.rx 4 0 44,.rx 5 0 44],.row (byteAV (lineF (segsZ 3 0) G2)),.row (byteAV (lineF (segsZ 3 1) G2)),.dead,.dead,.dead,.dead]) (fun _=>True) ?_ ?_
   ·refine ww ?_
    refine qAa rfl (fun d2=>?_) (fun d2=>?_)
    ·have dl:opt≠[]:=by simpa using d2
     rw [if_neg dl] at hG2
     subst hG2
     have hdg:=hd3 (fitW 14 (G1 11)) (by rw [qBb];omega)
     have hdl:=qBc (fitW 14 (G1 11))
     refine ww ?_
     refine qAd (call2 (F:=G1) (F':=G1) (r0:=.d (.str (fitW 14 (G1 11)))) rfl rfl (get2_spec 3 44 (.inr ⟨rfl,rfl⟩) G1 11 (.inr rfl)) rfl rfl rfl rfl rfl) rfl ?_
     refine wwc hdg ?_
     refine ww ?_
     refine qAd (call2 (F:=G1) (F':=updF G1 12 (dgS (fitW 14 (G1 11)))) rfl rfl (qBx 3 44 (.inr ⟨rfl,rfl⟩) G1 12 (by omega) (dgS (fitW 14 (G1 11))) (by show (digitF (fitW 14 (G1 11))).1.length≤_;omega)) rfl rfl rfl rfl rfl) rfl ?_
     refine ww ?_
     exact ⟨(),trivial,⟨.refl _,.refl _,trivial⟩,HLe.refl _⟩
    ·have dl:opt=[]:=by simpa using d2
     rw [if_pos dl] at hG2
     subst hG2
     refine ww ?_
     exact ⟨(),trivial,⟨.refl _,.refl _,trivial⟩,HLe.refl _⟩
   intro _ _
   generalize hs:compG [lineF (segsZ 3 0) G2,lineF (segsZ 3 1) G2]=s
   have hsl:s.length≤1000:=by rw [← hs];exact comp_len2 (by decide) (qAx G2 _)
   have k2:∀ j,j≠12→G2 j=G1 j:=fun j hj=>by
    rw [← hG2]
    split
    ·rfl
    ·unfold updF;rw [if_neg hj]
   have k1:∀ j,j≠3→j≠4→j≠11→G1 j=G j:=fun j h3 h4 h11=>by
    rw [← hG1]
    split
    ·unfold updF;rw [if_neg h11,if_neg h3]
    ·unfold updF;rw [if_neg h11,if_neg h4,if_neg h3]
   have k0:∀ j,j≠3→j≠4→j≠11→j≠12→G2 j=FK [(3,0,kind),(6,1,state),(8,2,name),(11,5,nat),(14,6,bir),(18,7,dgS bir),(21,8,sex),(24,9,exp),(28,10,dgS exp),(31,13,sec)] j:=fun j h3 h4 h11 h12=>by rw [k2 j h12,k1 j h3 h4 h11,← hG]
   have e4:G 4=[]:=by rw [← hG];rfl
   have e12:G1 12=[]:=by rw [k1 12 (by omega) (by omega) (by omega),← hG];rfl
   have hroom:=ok.opt.1
   have hmost:=ok.num.2.1
   unfold roomF at hroom
   unfold mostN at hmost
   simp only at hroom hmost
   have e11:G1 11=if num.length > 9 then num.drop 9++dgS num++[60]++opt else opt:=by rw [← hG1];split <;> rfl
   have hwd:(opt.length:Int)+((if num.length≤9 then 0 else num.length-9+2:Nat):Int)≤((14:Nat):Int):=by
    by_cases hc:num.length≤9
    ·rw [if_pos hc]
     rw [if_neg (show ¬ num.length > 9 by omega)] at hroom
     simp at hroom ⊢
     omega
    ·rw [if_neg hc]
     rw [if_pos (show num.length > 9 by omega)] at hroom
     simp at hroom ⊢
     omega
   have hlaid:Laid ⟨3,kind,state,sur,giv,num,nat,bir,sex,exp,opt,sec⟩ G2 14:=laid_of ok hwd
    (k0 0 (by omega) (by omega) (by omega) (by omega)) (k0 1 (by omega) (by omega) (by omega) (by omega)) (k0 5 (by omega) (by omega) (by omega) (by omega)) (k0 6 (by omega) (by omega) (by omega) (by omega)) (k0 7 (by omega) (by omega) (by omega) (by omega)) (k0 8 (by omega) (by omega) (by omega) (by omega)) (k0 9 (by omega) (by omega) (by omega) (by omega)) (k0 10 (by omega) (by omega) (by omega) (by omega))
    (by rw [k2 3 (by omega),← hG1];split <;> rfl) (by rw [k2 4 (by omega),← hG1];split;exact e4;rfl) (by rw [k2 11 (by omega)];exact e11)
   have hlines:[lineF (segsZ 3 0) (updF G2 14 (dgS s)),lineF (segsZ 3 1) (updF G2 14 (dgS s))]=buildZ ⟨3,kind,state,sur,giv,num,nat,bir,sex,exp,opt,sec⟩:=lines_book ok rfl hlaid (by rw [k0 2 (by omega) (by omega) (by omega) (by omega)];simp only;rw [hnm];rfl) (by simp only;rw [hnm];exact hNl) (by rw [← hG2];simp only;split;exact e12;show dgS (fitW 14 (G1 11))=_;rw [e11,if_neg (by simp at hmost;omega)]) s hs.symm
   have hcs:=comp2_spec 3 44 (.inr ⟨rfl,rfl⟩) G2
   rw [hs] at hcs
   have hdg:=hd3 s (by omega)
   have hdl:=qBc s
   refine ww ?_
   refine qAd (call2 (F:=G2) (F':=G2) (r0:=.d (.str s)) rfl rfl hcs rfl rfl rfl rfl rfl) rfl ?_
   refine wwc hdg ?_
   refine ww ?_
   refine qAd (call2 (F:=G2) (F':=updF G2 14 (dgS s)) rfl rfl (qBx 3 44 (.inr ⟨rfl,rfl⟩) G2 14 (by omega) (dgS s) (by show (digitF s).1.length≤_;omega)) rfl rfl rfl rfl rfl) rfl ?_
   generalize updF G2 14 (dgS s)=G3 at hlines ⊢
   refine ww ?_
   refine qAo ?_
   refine qBh 13 1 10 (es:=[]) (.inr ⟨rfl,rfl⟩) rfl ?_
   refine qAq (ι:=Nat) (fun i=>[(142,.bm 3 2),(143,.d (.int .i64 2)),(144,.d (.int .i64 (i:Int))),(13,.sl 1 (encSs ([lineF (segsZ 3 0) G3,lineF (segsZ 3 1) G3].take i)) (.right 10))]) (fun i=>[.row [.d (.int .i64 3),.d (.str kind),.d (.str state),.d (.str sur),.d (.str giv),.d (.str num),.d (.str nat),.d (.str bir),.d (.str sex),.d (.str exp),.d (.str opt),.d (.str sec)],.dead,.row (shB (layD 3) 2),.buf 1 2 [.rx 4 0 44,.rx 5 0 44],.row (byteAV (lineF (segsZ 3 0) G3)),.row (byteAV (lineF (segsZ 3 1) G3)),.dead,.dead,.dead,.dead,.right 1 i]) (fun i=>i≤2) (fun i=>2-i) 0 (by omega) ⟨.refl _,.refl _,.refl _,.refl _,trivial⟩ (HLe.refl _) ?_
   intro i hi
   refine ww ?_
   refine qAa rfl (fun c5=>?_) (fun c5=>?_)
   ·have hi3:i=0∨i=1:=by have h3:(i:Int) < 2:=(by simpa using c5);omega
    rcases hi3 with rfl | rfl
    ·refine ww ?_
     refine qAd (qAc (qBe (sz:=1) hT rfl rfl rfl rfl (by omega))) rfl ?_
     refine qAd (v:=.rx 4 0 44) (qBl hT rfl rfl rfl rfl rfl rfl) rfl ?_
     refine ww ?_
     refine qAd (qDh (s:=lineF (segsZ 3 0) G3) hT rfl rfl rfl (by omega) rfl (qAx G3 _) (rx_all _)) rfl ?_
     refine ww ?_
     refine qAd (qAk (i:=10) hT rfl rfl rfl rfl rfl rfl (by show (0+1)*(16+1)≤140737488355328;omega)) rfl ?_
     refine ww ?_
     exact ⟨1,by omega,by omega,⟨.refl _,.refl _,.refl _,.refl _,trivial⟩,HLe.refl _⟩
    ·refine ww ?_
     refine qAd (qAc (qBe (sz:=1) hT rfl rfl rfl rfl (by omega))) rfl ?_
     refine qAd (v:=.rx 5 0 44) (qBl hT rfl rfl rfl rfl rfl rfl) rfl ?_
     refine ww ?_
     refine qAd (qDh (s:=lineF (segsZ 3 1) G3) hT rfl rfl rfl (by omega) rfl (qAx G3 _) (rx_all _)) rfl ?_
     refine ww ?_
     refine qAd (qAk (i:=10) hT rfl rfl rfl rfl rfl rfl (by show (1+1)*(16+1)≤140737488355328;omega)) rfl ?_
     refine ww ?_
     exact ⟨2,by omega,by omega,⟨.refl _,.refl _,.refl _,.refl _,trivial⟩,HLe.refl _⟩
   have hi':i=2:=by have h3:¬ ((i:Int) < 2):=(by simpa using c5);omega
   subst hi'
   refine ww ?_
   exact rq ⟨rfl,rfl⟩ rfl (AV.le.tup ⟨AV.le.dat' (by rw [← hlines];rfl),.refl _,trivial⟩)
end Tdoc
namespace Tdoc
open Go Go.Proofs
theorem encSs_length (l:List (List UInt8)):(encSs l).length=l.length:=by simp [encSs]
theorem checkedS_le (s:List UInt8):(checkedS s).length≤s.length+1:=by unfold checkedS;rw [List.length_append];have:=qBc s;omega
theorem wideS_le (s:List UInt8) (n:Nat):(wideS s n).length≤s.length+n:=by rw [qAt];omega
theorem numberS_le (s:List UInt8):(numberS s).1.length≤s.length+20∧(numberS s).2.length≤s.length+2:=by
 unfold numberS
 split
 ·have h1:=checkedS_le (wideS s 9)
  have h2:=wideS_le s 9
  exact ⟨by simp only;omega,by simp⟩
 ·have:=qBc s
  refine ⟨?_,?_⟩
  ·show (s.take 9++[60]).length≤_
   rw [List.length_append,List.length_take];simp;omega
  ·show (s.drop 9++(digitF s).1++[60]).length≤_
   rw [List.length_append,List.length_append,List.length_drop];simp;omega
theorem buildZ_len {z:Zon} (hz:zLen z):(buildZ z).flatten.length≤200000∧(buildZ z).length≤3:=by
 obtain ⟨z1,z2,z3,z4,z5,z6,z7,z8,z9,z10,z11⟩:=hz
 have a1:=wideS_le z.kind 2
 have a2:=wideS_le z.state 3
 have a3:=checkedS_le z.bir
 have a4:=checkedS_le z.exp
 have a5:=wideS_le z.nat 3
 have a6:=numberS_le z.num
 have a7:=wideS_le ((numberS z.num).2++z.opt) 15
 have a8:=wideS_le ((numberS z.num).2++z.opt) 7
 have a9:=wideS_le z.opt 14
 have a10:=wideS_le z.sec 11
 have a11:(namesF z.sur z.giv (nameW z.fmt)).1.length≤39:=by
  have:=names_len z.sur z.giv (nameW z.fmt)
  have hw:nameW z.fmt≤39:=by unfold nameW;split <;> (try split) <;> omega
  omega
 rw [List.length_append] at a7 a8
 unfold buildZ
 split
 ·refine ⟨?_,by simp⟩
  have d1:=fun s=>qBc s
  simp only [List.flatten_cons,List.flatten_nil,List.length_append,List.length_nil]
  have:=d1 (cutS (wideS z.kind 2++wideS z.state 3++(numberS z.num).1++wideS ((numberS z.num).2++z.opt) 15) 5 30++cutS (checkedS z.bir++z.sex++checkedS z.exp++wideS z.nat 3++wideS z.sec 11) 0 7++cutS (checkedS z.bir++z.sex++checkedS z.exp++wideS z.nat 3++wideS z.sec 11) 8 15++cutS (checkedS z.bir++z.sex++checkedS z.exp++wideS z.nat 3++wideS z.sec 11) 18 29)
  omega
 ·split
  ·refine ⟨?_,by simp⟩
   simp only [List.flatten_cons,List.flatten_nil,List.length_append,List.length_nil]
   have:=qBc (cutS ((numberS z.num).1++wideS z.nat 3++checkedS z.bir++z.sex++checkedS z.exp++wideS ((numberS z.num).2++z.opt) 7) 0 10++cutS ((numberS z.num).1++wideS z.nat 3++checkedS z.bir++z.sex++checkedS z.exp++wideS ((numberS z.num).2++z.opt) 7) 13 20++cutS ((numberS z.num).1++wideS z.nat 3++checkedS z.bir++z.sex++checkedS z.exp++wideS ((numberS z.num).2++z.opt) 7) 21 35)
   omega
  ·have ho:(if z.opt=[] then [60] else (digitF (wideS z.opt 14)).1).length≤1:=by
    split
    ·simp
    ·exact qBc _
   refine ⟨?_,by simp⟩
   generalize (if z.opt=[] then [60] else (digitF (wideS z.opt 14)).1)=o at ho ⊢
   simp only [List.flatten_cons,List.flatten_nil,List.length_append,List.length_nil]
   have:=qBc (cutS ((numberS z.num).1++wideS z.nat 3++checkedS z.bir++z.sex++checkedS z.exp++wideS z.opt 14++o) 0 10++cutS ((numberS z.num).1++wideS z.nat 3++checkedS z.bir++z.sex++checkedS z.exp++wideS z.opt 14++o) 13 20++cutS ((numberS z.num).1++wideS z.nat 3++checkedS z.bir++z.sex++checkedS z.exp++wideS z.opt 14++o) 21 43)
   omega
end Tdoc
namespace Tdoc
open Go Go.Proofs
theorem BuildP_spec (z:Zon) (hz:zLen z):Spec Tryz.prog 65 [zAV z] [] (fun r h'=>r=.tup [.d (.sl 1 (encSs (buildF z).1)),.d (.int .i64 (buildF z).2)]∧h'=[]):=by
 unfold buildF
 by_cases h0:validZ z=0
 ·rw [if_neg (by simp [h0])]
  have hf:=(validZ_ok h0).fmt
  have:z.fmt=1∨z.fmt=2∨z.fmt=3:=by omega
  rcases this with h | h | h
  ·exact BuildP_card z hz h0 h
  ·exact BuildP_small z hz h0 h
  ·exact BuildP_book z hz h0 h
 ·rw [if_pos h0]
  exact BuildP_bad z hz h0
theorem ZoneP_spec (z:Zon) (hz:zLen z):Spec Tryz.prog 26 [zAV z] [] (fun r h'=>r=.tup [.d (.sl 1 (encB (zoneF z).1)),.d (.int .i64 (zoneF z).2)]∧h'=[]):=by
 have hb:=BuildP_spec z hz
 unfold zoneF
 by_cases h0:validZ z=0
 case neg =>
  have hbe:buildF z=([],validZ z):=by unfold buildF;rw [if_pos h0]
  rw [if_pos h0]
  rw [hbe] at hb
  generalize validZ z=e at hb h0
  obtain ⟨fmt,kind,state,sur,giv,num,nat,bir,sex,exp,opt,sec⟩:=z
  unfold zAV zCells at hb ⊢
  simp only at hb ⊢
  refine qAb hT Tryz.func26 rfl rfl rfl rfl ?_;intro E hE
  refine ww ?_
  refine wwc hb ?_
  refine ww ?_
  refine qAa rfl (fun c1=>?_) (fun c1=>?_)
  ·refine ww ?_
   exact wwr
  ·exact absurd (by simpa using c1) h0
 have hbe:buildF z=(buildZ z,0):=by unfold buildF;rw [if_neg (by simp [h0])]
 obtain ⟨hl1,hl2⟩:=buildZ_len hz
 rw [if_neg (by simp [h0])]
 rw [hbe] at hb
 generalize buildZ z=ls at hb hl1 hl2
 have hll:=encSs_length ls
 have hw:=Wrap_spec 1 (by omega) [.mk 24351 ls.flatten []] (by simp) ⟨⟨by omega,by omega,by simp,trivial⟩,trivial⟩ (by simp [sizeL,sizeN]) (by have h1:=wrL_one_le 24351 ls.flatten [];have h2:(wrL ([]:List Node)).length=0:=rfl;omega)
 generalize wrapG 1 [.mk 24351 ls.flatten []]=w at hw
 obtain ⟨w,we⟩:=w
 simp only at hw ⊢
 obtain ⟨fmt,kind,state,sur,giv,num,nat,bir,sex,exp,opt,sec⟩:=z
 unfold zAV zCells at hb ⊢
 simp only at hb ⊢
 refine qAb hT Tryz.func26 rfl rfl rfl rfl ?_;intro E hE
 refine ww ?_
 refine wwc hb ?_
 refine ww ?_
 refine qAa rfl (fun c1=>?_) (fun c1=>?_)
 ·exact absurd c1 (by simp)
 refine ww ?_
 refine qAo ?_
 refine qBh 6 1 1 (es:=[]) (.inr ⟨rfl,rfl⟩) rfl ?_
 refine qAq (ι:=Nat) (fun i=>[(17,.d (.sl 1 (encSs ls))),(18,.d (.int .i64 (encSs ls).length)),(6,.sl 1 (encB (ls.take i).flatten) (.right 1)),(19,.d (.int .i64 (i:Int)))]) (fun i=>[.dead,.right 1 (encB (ls.take i).flatten).length]) (fun i=>i≤ls.length) (fun i=>ls.length-i) 0 (by omega) ⟨.refl _,.refl _,.refl _,.refl _,trivial⟩ ⟨trivial,.refl _,trivial⟩ ?_
 intro i hi
 have hwr:IntKind.i64.wrap ((i:Int)+1)=((i+1:Nat):Int):=by rw [qAe (by omega)];simp
 refine ww ?_
 refine qAa rfl (fun c2=>?_) (fun c2=>?_)
 ·have c2':i < ls.length:=by rw [hll] at c2;simpa using c2
  have hel:(encSs ls)[((i:Int)).toNat]?=some [.str ls[i]]:=by simp [encSs,c2']
  have htk:(ls.take (i+1)).flatten=(ls.take i).flatten++ls[i]:=by rw [List.take_succ_eq_append_getElem c2',List.flatten_append,List.flatten_cons,List.flatten_nil,List.append_nil]
  have hle:(ls.take i).flatten.length+(ls[i]).length≤200000:=by
   have h2:ls.flatten=(ls.take (i+1)).flatten++(ls.drop (i+1)).flatten:=by rw [← List.flatten_append,List.take_append_drop]
   rw [h2,htk,List.length_append,List.length_append] at hl1
   omega
  have heb:encB (ls.take i).flatten++(ls[i].map fun b=>[Dat.int .u8 (b.toNat:Int)])=encB (ls.take (i+1)).flatten:=by rw [htk];simp [encB]
  have hbl:=qAl (ls.take i).flatten
  generalize ls[i]=x at hel htk hle heb
  refine ww ?_
  refine wwi hel ?_
  refine ww ?_
  refine qAd (qAk (i:=1) hT rfl rfl rfl rfl rfl rfl (by show ((encB (ls.take i).flatten).length+(x.map fun b=>[Dat.int .u8 (b.toNat:Int)]).length)*(1+1)≤_;rw [hbl,List.length_map];omega)) rfl ?_
  refine ww ?_
  exact ⟨i+1,by omega,by omega,⟨.refl _,.refl _,.eq (congrArg (fun q=>AV.sl 1 q (.right 1)) heb),.int hwr,trivial⟩,⟨trivial,⟨rfl,congrArg List.length heb⟩,trivial⟩⟩
 ·have c2':i=ls.length:=by rw [hll] at c2;simp at c2;omega
  subst c2'
  rw [List.take_length]
  refine ww ?_
  refine wwc hw ?_
  refine ww ?_
  exact wwr
end Tdoc
namespace Tdoc
open Go Go.Proofs
theorem octB_one {n:Nat}:octB 1 n=[bOf (n:Int)]:=by
 have e:((n:Int) % 256).toNat=n % 256:=by omega
 unfold bOf;rw [e];rfl
theorem octB_two {n:Nat} (h:n < 65536):octB 2 n=[bOf ((n:Int) / 256),bOf (n:Int)]:=by
 have e1:((n:Int) % 256).toNat=n % 256:=by omega
 have e2:((n:Int) / 256 % 256).toNat=n / 256 % 256:=by omega
 unfold bOf;rw [e1,e2];rfl
def fv (k p a b q f:Nat):List (Nat×Nat×Nat):=[(129,1,k),(130,1,p),(131,4,a),(132,4,b),(133,1,q),(136,2,f)]
theorem headT_fv {k p a b q f:Nat} {data:List UInt8} (hf:f < 65536):headT ⟨(k:Int),(p:Int),(a:Int),(b:Int),(f:Int),(q:Int),data⟩=(fv k p a b q f).map fun x=>.mk (x.1:Int) (octB x.2.1 x.2.2) []:=by
 simp only [headT,fv,List.map_cons,List.map_nil,octB_one,octB_two hf,Int.toNat_natCast]
 rfl
theorem objP_spec (t:Tpl) (hv:validT t=0):Spec Tryz.prog 129 [tAV t] [] (fun r h'=>r=nAV (objT t)∧h'=[]):=by
 have ok:=validT_ok hv
 obtain ⟨kind,part,frm,til,fmt,qual,data⟩:=t
 simp only at ok
 obtain ⟨kind,rfl⟩:∃ n:Nat,kind=(n:Int):=⟨kind.toNat,by omega⟩
 obtain ⟨part,rfl⟩:∃ n:Nat,part=(n:Int):=⟨part.toNat,by omega⟩
 obtain ⟨frm,rfl⟩:∃ n:Nat,frm=(n:Int):=⟨frm.toNat,by omega⟩
 obtain ⟨til,rfl⟩:∃ n:Nat,til=(n:Int):=⟨til.toNat,by omega⟩
 obtain ⟨fmt,rfl⟩:∃ n:Nat,fmt=(n:Int):=⟨fmt.toNat,by omega⟩
 obtain ⟨qual,rfl⟩:∃ n:Nat,qual=(n:Int):=⟨qual.toNat,by omega⟩
 have hF:=fields_spec
 have hcl:=CloneB_spec (encB data) (by rw [qAl];omega)
 have hhd:=headT_fv (k:=kind) (p:=part) (a:=frm) (b:=til) (q:=qual) (f:=fmt) (data:=data) (by omega)
 generalize hL:fv kind part frm til qual fmt=L at hhd
 have hLl:L.length=6:=by rw [← hL];rfl
 have hV:([[.int .i64 (kind:Int)],[.int .i64 (part:Int)],[.int .i64 (frm:Int)],[.int .i64 (til:Int)],[.int .i64 (qual:Int)],[.int .i64 (fmt:Int)]]:List (List Dat))=L.map fun x=>[Dat.int .i64 (x.2.2:Int)]:=by rw [← hL];rfl
 have hFl:fieldsE=L.map fun x=>[Dat.int .i64 (x.1:Int),Dat.int .i64 (x.2.1:Int)]:=by rw [← hL];rfl
 have hok:∀ x∈L,x.2.1≤7∧x.2.2 < 256 ^ x.2.1:=fun x hx=>by
  rw [← hL] at hx
  simp only [fv,List.mem_cons,List.not_mem_nil,or_false] at hx
  rcases hx with rfl | rfl | rfl | rfl | rfl | rfl <;> simp only <;> omega
 rw [hFl] at hF
 unfold objT
 rw [hhd]
 unfold tAV tCells
 simp only
 generalize hN:(L.map fun x=>Node.mk (x.1:Int) (octB x.2.1 x.2.2) [])=N
 have hNl:N.length=6:=by rw [← hN];simp [hLl]
 have hel:=qAm N
 refine qAb hT Tryz.func129 rfl rfl rfl rfl ?_;intro E hE
 refine ww ?_
 rw [hV]
 have hEl:(L.map fun x=>[Dat.int .i64 (x.2.2:Int)]).length=6:=by simp [hLl]
 refine qAo (qDn 2 2 3 3 rfl rfl rfl ?_)
 refine qBu (ι:=Nat) (fun i=>[(1,.ptr 0 0),(2,.ptr 1 0),(3,.ptr 2 0),(22,.d (.sl 1 (L.map fun x=>[Dat.int .i64 (x.2.2:Int)]))),(23,.d (.int .i64 6)),(24,.d (.int .i64 (i:Int)))])
  (fun i=>[.row [.d (.int .i64 (kind:Int)),.d (.int .i64 (part:Int)),.d (.int .i64 (frm:Int)),.d (.int .i64 (til:Int)),.d (.int .i64 (fmt:Int)),.d (.int .i64 (qual:Int)),.d (.sl 1 (encB data))],.row [.d (.int .i64 0),.sl 1 [] .full,.sl 3 [] .full],
   .row [.d (.int .i64 161),.sl 1 [] .full,.sl 3 (encNs (N.take i)) (.right 3)],.right 3 (encNs (N.take i)).length])
  (fun i=>i≤6) (fun i=>6-i) 0 (by omega) ⟨.refl _,.refl _,.refl _,.dat,.int (by rw [hEl];rfl),.refl _,trivial⟩ (HLe.refl _) ?_
 intro i hi
 have hwr:IntKind.i64.wrap ((i:Int)+1)=((i+1:Nat):Int):=by rw [qAe (by omega)];simp
 refine ww ?_
 refine qAa rfl (fun c2=>?_) (fun c2=>?_)
 ·have c2':i < 6:=by have h3:(i:Int) < 6:=(by simpa using c2);omega
  have hiL:i < L.length:=by omega
  obtain ⟨⟨tg,m,v⟩,hget⟩:∃ x,L[i]?=some x:=⟨L[i],List.getElem?_eq_getElem hiL⟩
  obtain ⟨hm,hvv⟩:=hok _ (List.mem_of_getElem? hget)
  simp only at hm hvv
  have hO:=Octets_spec v m hm hvv
  have he1:(L.map fun x=>[Dat.int .i64 (x.2.2:Int)])[((i:Int)).toNat]?=some [.int .i64 (v:Int)]:=by rw [Int.toNat_natCast,List.getElem?_map,hget];rfl
  have he2:(L.map fun x=>[Dat.int .i64 (x.1:Int),Dat.int .i64 (x.2.1:Int)])[((i:Int)).toNat]?=some [.int .i64 (tg:Int),.int .i64 (m:Int)]:=by rw [Int.toNat_natCast,List.getElem?_map,hget];rfl
  have hNi:N[i]?=some (.mk (tg:Int) (octB m v) []):=by rw [← hN,List.getElem?_map,hget];rfl
  have htk:encNs (N.take (i+1))=encNs (N.take i)++[encN (.mk (tg:Int) (octB m v) [])]:=by
   rw [List.take_add_one,hNi,qDs];rfl
  have hnl:(encNs (N.take i)).length=i:=by rw [qAm,List.length_take];omega
  generalize (L.map fun x=>[Dat.int .i64 (x.2.2:Int)])=V1 at he1 ⊢
  generalize (L.map fun x=>[Dat.int .i64 (x.1:Int),Dat.int .i64 (x.2.1:Int)])=V2 at he2 hF
  refine ww ?_
  refine wwi he1 ?_
  refine ww ?_
  refine wwc hF ?_
  refine ww ?_
  refine wwi he2 ?_
  refine ww ?_
  refine wwc hO ?_
  refine ww ?_
  refine qAd (qAk (i:=3) hT rfl rfl rfl rfl rfl rfl (by show ((encNs (N.take i)).length+1)*(56+1)≤_;omega)) rfl ?_
  refine ww ?_
  refine ⟨i+1,[_],by omega,by omega,⟨.refl _,.refl _,.refl _,.refl _,.refl _,.int hwr,trivial⟩,⟨.refl _,.refl _,ObLe.row (by rw [htk];rfl),⟨rfl,congrArg List.length htk.symm⟩,.refl _,trivial⟩,Env.below_mono hE (by simp),rfl,rfl⟩
 ·have c2':i=6:=by have h3:¬ (i:Int) < 6:=(by simpa using c2);omega
  subst c2'
  rw [List.take_of_length_le (by omega)]
  refine wwn ?_
  refine qDm (l:=[(1,.ptr 0 0),(2,.ptr 1 0),(3,.ptr 2 0)]) (h':=[.row [.d (.int .i64 (kind:Int)),.d (.int .i64 (part:Int)),.d (.int .i64 (frm:Int)),.d (.int .i64 (til:Int)),.d (.int .i64 (fmt:Int)),.d (.int .i64 (qual:Int)),.d (.sl 1 (encB data))],.row [.d (.int .i64 0),.sl 1 [] .full,.sl 3 [] .full],.row [.d (.int .i64 161),.d (.sl 1 []),.d (.sl 3 (encNs N))],.dead]) ⟨.refl _,.refl _,.refl _,trivial⟩ ⟨.refl _,.refl _,⟨.refl _,.dat,.dat,trivial⟩,trivial,trivial⟩ ?_
  refine qBg (fun i=>bif Nat.beq i 0 then [2] else bif Nat.beq i 2 then [0] else bif Nat.beq i 7 then [1] else []) (fun i=>bif Nat.beq i 7 then [1] else []) mixed (by kernel_rfl) ?_
  refine wwg ?_
  refine wwdc hcl ?_
  refine wwg ?_
  refine qAs (os:=[]) (fun k hk1 hk2=>qCz hT rfl rfl) rfl ?_
  refine wwg ?_
  refine ww ?_
  exact wwr
end Tdoc
namespace Tdoc
open Go Go.Proofs
def PredT (g:FuncId) (first cap:List AV) (H:List AObj) (p:Tpl→Bool) (l:List Tpl):Prop :=
 ∀ c,c∈l→Spec Tryz.prog g (first++([tAV c]++cap)) H (fun r h'=>r=.d (.bool (p c))∧h'=H)
theorem IndexFuncT_spec {l:List Tpl} {g:FuncId} {first cap:List AV} {H:List AObj} {p:Tpl→Bool} (hp:PredT g first cap H p l) (hH:lowH H.length H=true) (h1:lowL H.length first=true) (h2:lowL H.length cap=true) (hl:l.length≤1000000000) :
  Spec Tryz.prog 201 [.d (.sl 7 (encTs l)),.fn (.func g) first cap] H (fun r h'=>r=.d (.int .i64 (fIdx p l))∧h'=H):=by
 refine qAb hT Tryz.func201 rfl rfl rfl rfl ?_
 intro E hE
 have hlen:=qDr l
 refine ww ?_
 refine qAq (ι:=Nat) (fun k=>[(0,.d (.sl 7 (encTs l))),(1,.fn (.func g) first cap),(7,.d (.int .i64 (encTs l).length)),(8,.d (.int .i64 k))]) (fun _=>H) (fun k=>k≤l.length∧∀ j,(hj:j < k)→(hj2:j < l.length)→p l[j]=false) (fun k=>l.length-k) 0
  ⟨by omega,fun j hj=>by omega⟩ ⟨.refl _,.refl _,.refl _,.refl _,trivial⟩ (HLe.refl _) ?_
 intro k ⟨hk,hb⟩
 refine ww ?_
 refine qAa rfl (fun h1'=>?_) (fun h1'=>?_)
 ·have hlt:k < l.length:=by rw [hlen] at h1';simpa using h1'
  have hel:=encTs_at hlt
  have hpk:=hp l[k] (List.getElem_mem hlt)
  generalize hc:l[k]=c at hel hpk
  obtain ⟨c1,c2,c3,c4,c5,c6,c7⟩:=c
  unfold encT at hel
  simp only at hel
  refine ww ?_
  refine qAd (qAc (qAi hT rfl rfl rfl rfl (by omega) hel)) rfl ?_
  refine ww ?_
  refine AWk_opR (callSame (Q:=fun r h'=>r=.d (.bool (p ⟨c1,c2,c3,c4,c5,c6,c7⟩))∧h'=H) rfl rfl (hpk.mono (fun r h' ⟨q1,q2⟩=>⟨⟨q1,q2⟩,by rw [q1];rfl,by rw [q2];exact hH⟩)) hH rfl ?_) rfl ?_
  ·have:∀ (a b:List AV),lowL H.length a=true→lowL H.length b=true→lowL H.length (a++b)=true:=by
    intro a
    induction a with
    | nil=>intro b _ hb;exact hb
    | cons x a ih=>intro b ha hb;simp only [lowL,Bool.and_eq_true,List.cons_append] at ha ⊢;exact ⟨ha.1,ih b ha.2 hb⟩
   exact this _ _ h1 (this [_] _ (by simp [lowL,low,tAV,tCells]) h2)
  rintro v h' ⟨rfl,rfl⟩
  refine ww ?_
  refine qAa rfl (fun h2'=>?_) (fun h2'=>?_)
  ·refine ww ?_
   refine qAg rfl (.refl _) (by simp) rfl rfl hH ⟨?_,rfl⟩
   show AV.d (.int .i64 (k:Int))=_
   rw [fIdx_at hlt (by rw [hc];exact h2') (fun j hj hj2=>hb j hj hj2)]
  ·refine ww ?_
   refine ⟨k+1,⟨by omega,fun j hj hj2=>?_⟩,by omega,⟨.refl _,.refl _,.refl _,AV.le.eq ?_,trivial⟩,HLe.refl _⟩
   ·by_cases hjk:j=k
    ·subst hjk;rw [hc];exact h2'
    ·exact hb j (by omega) hj2
   ·show AV.d (.int .i64 (IntKind.i64.wrap ((k:Int)+1)))=_
    rw [qAe (by omega)];rfl
 ·have hge:k=l.length:=by rw [hlen] at h1';simp at h1';omega
  refine ww ?_
  refine qAg rfl (.refl _) (by simp) rfl rfl hH ⟨?_,rfl⟩
  show AV.d (.int .i64 (-1))=_
  rw [fIdx_none (fun j hj=>hb j (by omega) hj)]
theorem ContainsFuncT_spec {l:List Tpl} {g:FuncId} {first cap:List AV} {H:List AObj} {p:Tpl→Bool} (hp:PredT g first cap H p l) (hH:lowH H.length H=true) (h1:lowL H.length first=true) (h2:lowL H.length cap=true) (hl:l.length≤1000000000) :
  Spec Tryz.prog 130 [.d (.sl 7 (encTs l)),.fn (.func g) first cap] H (fun r h'=>r=.d (.bool (l.any p))∧h'=H):=by
 refine qAb hT Tryz.func130 rfl rfl rfl rfl ?_
 intro E hE
 have hs:=IndexFuncT_spec hp hH h1 h2 hl
 refine ww ?_
 refine AWk_opR (callSame (Q:=fun r h'=>r=.d (.int .i64 (fIdx p l))∧h'=H) rfl rfl (hs.mono (fun r h' ⟨q1,q2⟩=>⟨⟨q1,q2⟩,by rw [q1];rfl,by rw [q2];exact hH⟩)) hH rfl ?_) rfl ?_
 ·simp [lowL,low,h1,h2]
 rintro v h' ⟨rfl,rfl⟩
 refine ww ?_
 refine qAg rfl (.refl _) (by simp) rfl rfl hH ⟨?_,rfl⟩
 show AV.d (.bool (decide (fIdx p l≥0)))=_
 rw [fIdx_any]
theorem kinds1_spec (n:Int) (hn : -9223372036854775807≤n∧n≤9223372036854775807) (x:Tpl):Spec Tryz.prog 131 ([]++([tAV x]++[.ptr 0 0])) [.row [.d (.int .i64 n)]] (fun r h'=>r=.d (.bool (x.kind != n-1))∧h'=[.row [.d (.int .i64 n)]]):=by
 obtain ⟨c1,c2,c3,c4,c5,c6,c7⟩:=x
 unfold tAV tCells
 simp only
 have hwn:IntKind.i64.wrap (n-1)=n-1:=qAe (by omega)
 refine qAb hT Tryz.func131 rfl rfl rfl rfl ?_;intro E hE
 refine qAo ?_
 refine wwe ?_
 refine qAu (qAn ?_)
 refine qAd (qCg (i0:=1) rfl rfl rfl) rfl ?_
 refine ww ?_
 rw [hwn]
 exact qAg rfl (.refl _) rfl rfl rfl rfl ⟨rfl,rfl⟩
theorem kinds_spec (n:Int) (hn : -9223372036854775807≤n∧n≤9223372036854775807) (l:List Tpl) (hl:l.length≤1000000):Spec Tryz.prog 70 [.d (.int .i64 n),.d (.sl 7 (encTs l))] [] (fun r h'=>r=.d (.bool (fitsT n l))∧h'=[]):=by
 have c1:=ContainsFuncT_spec (p:=fun x=>x.kind != n-1) (l:=l) (fun x hx=>kinds1_spec n hn x) rfl rfl rfl (by omega)
 have hf:fitsT n l=!(l.any fun x=>x.kind != n-1):=by
  unfold fitsT
  rw [List.not_any_eq_all_not]
  congr 1
  funext x
  rw [Bool.eq_iff_iff];simp
 rw [hf]
 generalize (l.any fun x=>x.kind != n-1)=b at c1
 refine qAb hT Tryz.func70 rfl rfl rfl rfl ?_;intro E hE
 refine qAo ?_
 refine wwe ?_
 refine qAu (qAn ?_)
 refine qAd (qCg (i0:=0) rfl rfl rfl) rfl ?_
 refine ww ?_
 refine qAd (callS1 rfl rfl (c1) [0] (by decide) rfl rfl rfl rfl rfl rfl rfl) rfl ?_
 refine ww ?_
 exact wwr
end Tdoc
namespace Tdoc
open Go Go.Proofs
theorem decTs_two (t:Int) (v:List UInt8) (ty:Int) (vy:List UInt8) (ky ks:List Node) :
  decTs [.mk t v (.mk ty vy ky::ks)]=if (isF (.mk t v (.mk ty vy ky::ks)) 32609&&isF (.mk ty vy ky) 2&&((vy.length:Int) == 1)&&(((nbN vy:Nat):Int) == (ks.length:Int)))=true then contT [] ks else ([],1):=by
 have h1:consF (.mk t v (.mk ty vy ky::ks)) 32609 (-1)=isF (.mk t v (.mk ty vy ky::ks)) 32609:=by unfold isF;rw [if_pos (by decide)]
 have h2:=primF_split ty 2 1 vy ky (by decide) rfl
 have d1:=decTs_cons (x:=.mk t v (.mk ty vy ky::ks))
 have d2:=decTs_prim (x:=.mk t v (.mk ty vy ky::ks)) (y:=.mk ty vy ky) (ks:=ks) rfl
 have d3:consF (.mk t v (.mk ty vy ky::ks)) 32609 (-1)=true→primF (.mk ty vy ky) 2 1=true→decTs [.mk t v (.mk ty vy ky::ks)]=if ((nbN vy:Nat):Int)=(ks.length:Int) then decR ks else ([],1) :=
  fun h0 h3=>decTs_go (x:=.mk t v (.mk ty vy ky::ks)) (y:=.mk ty vy ky) (ks:=ks) h0 rfl ((nbN vy:Nat):Int) rfl h3
 rw [h1] at d1 d3
 rw [h2] at d2 d3
 generalize isF (.mk t v (.mk ty vy ky::ks)) 32609=b0 at *
 generalize isF (.mk ty vy ky) 2=b1 at *
 generalize ((vy.length:Int) == 1)=b2 at *
 cases b0
 ·rw [d1 rfl];simp
 cases b1
 ·rw [d2 (by simp)];simp
 cases b2
 ·rw [d2 (by simp)];simp
 rw [d3 rfl (by simp),decR_eq]
 simp only [Bool.true_and,beq_iff_eq]
theorem DecodeB_spec (l:List Node) (hk:wgtL l≤1000000):Spec Tryz.prog 91 [.d (.sl 3 (encNs l))] []
  (fun r h'=>r=.tup [.d (.sl 7 (encTs (decTs l).1)),.d (.int .i64 (decTs l).2)]∧h'=[]):=by
 have hlen:=qAm l
 by_cases h1:l.length=1
 case neg =>
  rw [decTs_many h1]
  have hn:(((encNs l).length:Int) != 1)=true:=by rw [hlen];simp;omega
  have hn2:(((encNs l).length:Int) != 1||false)=true:=by rw [hn];rfl
  refine qAb hT Tryz.func91 rfl rfl rfl rfl ?_;intro E hE
  refine wwk hn ?_
  refine wwk hn2 ?_
  refine qAa rfl (fun c1=>?_) (fun c1=>?_)
  ·refine ww ?_
   exact wwr
  ·exact absurd c1 (by rw [hn];simp)
 obtain ⟨t,v,k,rfl⟩:∃ t v k,l=[.mk t v k]:=match l,h1 with
  | [.mk t v k],_=>⟨t,v,k,rfl⟩
 have hI:=is_spec (.mk t v k) 32609 (by decide)
 rw [nAV_eq] at hI
 have hel:(encNs [.mk t v k])[((0:Int)).toNat]?=some [.int .i64 t,.sl 1 (encB v),.sl 3 (encNs k)]:=rfl
 have hwk:wgtL k≤1000000:=by simp only [wgtL,wgtN] at hk;omega
 have hkl:=qAm k
 have hkk:=len_wgt k
 have he1:(((encNs [.mk t v k]).length:Int) != 1)=false:=rfl
 match k,hwk,hkl,hkk,hI,hel,he1 with
 | [],_,hkl,_,hI,hel,he1 =>
  rw [decTs_nil rfl]
  generalize isF (.mk t v []) 32609=b0 at hI
  refine qAb hT Tryz.func91 rfl rfl rfl rfl ?_;intro E hE
  refine ww ?_
  refine wwgi hel ?_
  refine ww ?_
  refine wwgc hI ?_
  refine ww ?_
  refine wwgi hel ?_
  refine ww ?_
  refine qAa rfl (fun c1=>?_) (fun c1=>?_)
  ·refine ww ?_
   exact wwr
  ·exfalso
   rw [show (((encNs []).length:Int) == 0)=true from rfl] at c1
   simp at c1
 | .mk ty vy ky::ks,hwk,hkl,hkk,hI,hel,he1 =>
 have hwks:wgtL ks≤1000000:=by rw [wgtL] at hwk;omega
 have hIy:=is_spec (.mk ty vy ky) 2 (by decide)
 rw [nAV_eq] at hIy
 have hel2:(encNs (.mk ty vy ky::ks))[((0:Int)).toNat]?=some [.int .i64 ty,.sl 1 (encB vy),.sl 3 (encNs ky)]:=rfl
 have hz:(((encNs (.mk ty vy ky::ks)).length:Int) == 0)=false:=by rw [hkl];simp;omega
 rw [List.length_cons] at hkl hkk
 have hvl:=qAl vy
 have hksl:=qAm ks
 rw [decTs_two]
 generalize isF (.mk t v (.mk ty vy ky::ks)) 32609=b0 at hI
 generalize isF (.mk ty vy ky) 2=b1 at hIy
 generalize hfin:contT [] ks=fin
 refine qAb hT Tryz.func91 rfl rfl rfl rfl ?_;intro E hE
 refine ww ?_
 refine wwgi hel ?_
 refine ww ?_
 refine wwgc hI ?_
 refine ww ?_
 refine wwgi hel ?_
 refine ww ?_
 refine qAa rfl (fun c1=>?_) (fun c1=>?_)
 ·have hb0:b0=false:=by
   rw [he1,hz] at c1
   cases b0 <;> simp at c1 ⊢
  rw [hb0,if_neg (by simp)]
  refine ww ?_
  exact wwr
 have hb0:b0=true:=by
  rw [he1,hz] at c1
  cases b0 <;> simp at c1 ⊢
 subst hb0
 clear c1
 refine wwn ?_
 refine qAo (qAo ?_)
 refine qBg (fun i=>bif Nat.beq i 11 then [1] else bif Nat.beq i 12 then [1] else []) (fun i=>bif Nat.beq i 11 then [1] else bif Nat.beq i 12 then [1] else []) mixed (by kernel_rfl) ?_
 refine wwg ?_
 refine qCb (qAi hT rfl rfl rfl rfl (by omega) hel) rfl rfl ?_
 refine wwg ?_
 refine qCb (qAi hT rfl rfl rfl rfl (by omega) hel2) rfl rfl ?_
 refine wwg ?_
 refine qCb (qAi hT rfl rfl rfl rfl (by omega) hel) rfl rfl ?_
 refine wwg ?_
 refine qAs (v:=.ptr 1 0) (os:=[.row [.d (.int .i64 0),.sl 1 [] .full,.sl 3 [] .full]]) (fun k hk1 hk2=>allocAt_ok (i0:=1) (t:=92) (i:=⟨.struct [(0,1,false),(1,1,false),(2,1,false)],3,56,[.d (.int .i64 0),.sl 1 [] .full,.sl 3 [] .full]⟩) hT rfl rfl (hk2 1 List.mem_cons_self)) rfl ?_
 refine wwg ?_
 refine ww ?_
 refine wwc hIy ?_
 by_cases hv1:b1=true∧vy.length=1
 case neg =>
  have hn:(!b1||(((encB vy).length:Int) != 1))=true:=by
   rw [hvl]
   cases b1
   ·rfl
   ·have:¬ vy.length=1:=fun h=>hv1 ⟨rfl,h⟩
    simp;omega
  have hcf:¬ (true&&b1&&((vy.length:Int) == 1)&&(((nbN vy:Nat):Int) == (ks.length:Int)))=true:=by
   intro hh
   simp only [Bool.and_eq_true,beq_iff_eq] at hh
   exact hv1 ⟨hh.1.1.2,by omega⟩
  rw [if_neg hcf]
  refine wwk hn ?_
  refine qAa rfl (fun c2=>?_) (fun c2=>?_)
  ·refine ww ?_
   exact wwr
  ·exact absurd c2 (by rw [hn];simp)
 obtain ⟨hb1,hv1⟩:=hv1
 subst hb1
 match vy,hv1,hel,hel2,hvl,hkl,hz,hkk,he1 with
 | [c],_,hel,hel2,hvl,hkl,hz,hkk,he1 =>
 have hcu:=UInt8.toNat_lt c
 have hel3:(encB [c])[((0:Int)).toNat]?=some [.int .u8 (c.toNat:Int)]:=rfl
 have hwc:IntKind.i64.wrap (c.toNat:Int)=(c.toNat:Int):=qAe (by omega)
 have hdl:(encNs (.mk ty [c] ky::ks)).drop (Int.toNat 1)=encNs ks:=rfl
 refine ww ?_
 refine wwgi hel3 ?_
 refine ww ?_
 rw [hdl] at *
 refine qAa rfl (fun c2=>?_) (fun c2=>?_)
 ·have hcf:¬ (true&&true&&((([c]:List UInt8).length:Int) == 1)&&(((nbN [c]:Nat):Int) == (ks.length:Int)))=true:=by
   intro hh
   simp only [Bool.and_eq_true,beq_iff_eq] at hh
   have h2:(c.toNat:Int)=(ks.length:Int):=by simpa [nbN] using hh.2
   rw [hwc,hksl,h2,show ((encB [c]).length:Int)=1 from rfl] at c2
   simp at c2
  rw [if_neg hcf]
  refine ww ?_
  exact wwr
 have hct:(true&&true&&((([c]:List UInt8).length:Int) == 1)&&(((nbN [c]:Nat):Int) == (ks.length:Int)))=true:=by
  rw [hwc,hksl,show ((encB [c]).length:Int)=1 from rfl] at c2
  have h2:(c.toNat:Int)=(ks.length:Int):=by simpa using c2
  simp [nbN,h2]
 rw [if_pos hct]
 clear c2 hct
 refine wwe ?_
 refine qAu (qAn ?_)
 refine wws ?_
 refine qBh 6 7 0 (es:=[]) (.inr ⟨rfl,rfl⟩) rfl ?_
 refine ww ?_
 refine qBu (ι:=Nat×List Tpl) (fun x=>[(60,.d (.sl 3 (encNs ks))),(61,.d (.int .i64 ((encNs ks).length:Int))),(62,.d (.int .i64 (x.1:Int))),(6,.sl 7 (encTs x.2) (.right 0))]) (fun x=>[.right 7 (encTs x.2).length,.row [.d (.int .i64 ty),.d (.sl 1 (encB [c])),.d (.sl 3 (encNs ky))]])
  (fun x=>x.1≤ks.length∧x.2.length=x.1∧contT x.2 (ks.drop x.1)=fin) (fun x=>ks.length-x.1) (0,[]) ⟨by simp,rfl,by simpa using hfin⟩ ⟨.refl _,.refl _,.refl _,.refl _,trivial⟩ (HLe.refl _) ?_
 rintro ⟨i,out⟩ ⟨hi,hol,hg⟩
 simp only at hi hol hg ⊢
 have hel4:=qDr out
 have hwr:IntKind.i64.wrap ((i:Int)+1)=((i+1:Nat):Int):=by rw [qAe (by omega)];omega
 refine ww ?_
 refine qAa rfl (fun c3=>?_) (fun c3=>?_)
 ·have c3':i < ks.length:=by rw [hksl] at c3;simpa using c3
  have helx:(encNs ks)[((i:Int)).toNat]?=some (encN ks[i]):=by rw [Int.toNat_natCast];simp [encNs_eq,c3']
  have hdr:ks.drop i=ks[i]::ks.drop (i+1):=List.drop_eq_getElem_cons c3'
  have hwx:=wgt_mem (List.getElem_mem c3')
  rw [hdr] at hg
  have hT2:=template_spec ks[i] (by omega)
  generalize ks[i]=x at helx hg hT2
  obtain ⟨tx,vx,kx⟩:=x
  rw [encN] at helx
  rw [nAV_eq] at hT2
  refine ww ?_
  refine wwi helx ?_
  refine ww ?_
  refine wwx hT2 ?_
  rintro ⟨y,ok⟩ hy
  obtain ⟨y1,y2,y3,y4,y5,y6,y7⟩:=y
  unfold tAV tCells
  simp only
  refine ww ?_
  refine qAa rfl (fun c4=>?_) (fun c4=>?_)
  ·have hn:ok=false:=by simpa using c4
   subst hn
   rw [contT_none hy.no] at hg
   subst hg
   refine ww ?_
   exact wwr
  have hn:ok=true:=by simpa using c4
  subst hn
  rw [contT_some hy.ok] at hg
  have hres:encTs (out++[⟨y1,y2,y3,y4,y5,y6,y7⟩])=encTs out++[[Dat.int .i64 y1,.int .i64 y2,.int .i64 y3,.int .i64 y4,.int .i64 y5,.int .i64 y6,.sl 1 (encB y7)]]:=by rw [encTs_append];rfl
  refine ww ?_
  refine qAd (qAk (i:=0) hT rfl rfl rfl rfl rfl rfl (by show ((encTs out).length+1)*(72+1)≤_;first | omega | (simp only [qAl,qAm,List.length_append,List.length_cons,List.length_nil];omega))) rfl ?_
  refine ww ?_
  exact ⟨(i+1,out++[⟨y1,y2,y3,y4,y5,y6,y7⟩]),[_,_],⟨c3',by rw [List.length_append,List.length_singleton,hol],hg⟩,by simp only;omega,⟨.refl _,.refl _,.int hwr,AV.le.eq (by rw [hres];rfl),trivial⟩,⟨⟨rfl,by rw [hres]⟩,ObLe.refl _,ObLe.refl _,ObLe.refl _,trivial⟩,Env.below_mono hE (by simp),rfl,rfl⟩
 ·have c3':i=ks.length:=by rw [hksl] at c3;simp at c3;omega
  subst c3'
  rw [List.drop_length,contT_nil] at hg
  have hV:=checkT_spec out (by omega)
  unfold finT at hg
  rw [chkTs_eq] at hg
  generalize chkTs out=we at hV hg
  refine wwe ?_
  refine qDm (l:=[(6,.d (.sl 7 (encTs out)))]) (h':=[.right 7 (encTs out).length,.row [.d (.int .i64 ty),.d (.sl 1 (encB [c])),.d (.sl 3 (encNs ky))]]) ⟨AV.le.dat,trivial⟩ (HLe.refl _) ?_
  refine ww ?_
  refine wwc hV ?_
  refine ww ?_
  refine qAa rfl (fun c5=>?_) (fun c5=>?_)
  ·have c5':we≠0:=by simpa using c5
   rw [if_pos c5'] at hg
   subst hg
   refine ww ?_
   exact wwr
  have c5':¬ we≠0:=by simpa using c5
  rw [if_neg c5'] at hg
  subst hg
  refine ww ?_
  exact wwr
end Tdoc
namespace Tdoc
open Go Go.Proofs
theorem biometric_spec (n:Int):Spec Tryz.prog 68 [.d (.int .i64 n)] [] (fun r h'=>r=.d (.bool (decide (n≥2)&&decide (n≤4)))∧h'=[]):=by
 refine qAb hT Tryz.func68 rfl rfl rfl rfl ?_;intro E hE
 refine ww ?_
 exact wwr
theorem OpenBio_spec (b:List UInt8) (hb:b.length≤9223372036854775807):Spec Tryz.prog 39 [.d (.sl 1 (encB b))] []
  (fun r h'=>r=.tup [.d (.int .i64 (bioO b).1),.d (.sl 7 (encTs (bioO b).2.1)),.d (.int .i64 (bioO b).2.2)]∧h'=[]):=by
 have ho:=Open_spec b (by omega)
 have hD:=DecodeB_spec (openX b).2.1 (by have:=openX_wg b;omega)
 have hk:=(decTs_ok (openX b).2.1).2
 unfold bioO
 generalize openX b=q at ho hD hk
 obtain ⟨n,l,e⟩:=q
 simp only at ho hD hk ⊢
 have hB:=biometric_spec n
 by_cases h1:e=0
 case neg =>
  have hn:(e == 0)=false:=by simpa using h1
  rw [if_pos h1]
  refine qAb hT Tryz.func39 rfl rfl rfl rfl ?_;intro E hE
  refine ww ?_
  refine wwc ho ?_
  refine wwk hn ?_
  refine qAa rfl (fun c1=>?_) (fun c1=>?_)
  ·exact absurd c1 (by rw [hn];simp)
  refine ww ?_
  refine qAa rfl (fun c2=>?_) (fun c2=>?_)
  ·refine ww ?_
   exact wwr
  ·exact absurd (by simpa using c2) h1
 subst h1
 rw [if_neg (by omega)]
 by_cases h2:n < 2∨n > 4
 case pos =>
  have hnb:(decide (n≥2)&&decide (n≤4))=false:=by simp;omega
  rw [hnb] at hB
  rw [if_pos h2]
  refine qAb hT Tryz.func39 rfl rfl rfl rfl ?_;intro E hE
  refine ww ?_
  refine wwc ho ?_
  refine ww ?_
  refine wwgc hB ?_
  refine ww ?_
  refine qAa rfl (fun c1=>?_) (fun c1=>?_)
  ·refine ww ?_
   refine qAa rfl (fun c2=>?_) (fun c2=>?_)
   ·refine ww ?_
    exact wwr
   ·exact absurd c2 (by simp)
  ·exact absurd c1 (by simp)
 have hnb:(decide (n≥2)&&decide (n≤4))=true:=by simp;omega
 rw [hnb] at hB
 rw [if_neg h2]
 have hF:=kinds_spec n (by omega) (decTs l).1 (by omega)
 generalize decTs l=d at hD hk hF
 obtain ⟨out,de⟩:=d
 simp only at hD hk hF ⊢
 generalize fitsT n out=ft at hF
 refine qAb hT Tryz.func39 rfl rfl rfl rfl ?_;intro E hE
 refine ww ?_
 refine wwc ho ?_
 refine ww ?_
 refine wwgc hB ?_
 refine ww ?_
 refine qAa rfl (fun c1=>?_) (fun c1=>?_)
 ·exact absurd c1 (by simp)
 refine ww ?_
 refine qAa rfl (fun c2=>?_) (fun c2=>?_)
 ·exact absurd c2 (by simp)
 refine ww ?_
 refine wwc hD ?_
 refine ww ?_
 refine qAa rfl (fun c3=>?_) (fun c3=>?_)
 ·rw [if_pos (by simpa using c3)]
  refine ww ?_
  exact wwr
 rw [if_neg (by simpa using c3)]
 refine ww ?_
 refine wwc hF ?_
 refine ww ?_
 refine qAa rfl (fun c4=>?_) (fun c4=>?_)
 ·have hn:ft=false:=by simpa using c4
  rw [if_pos hn]
  refine ww ?_
  exact wwr
 have hn:¬ ft=false:=by simpa using c4
 rw [if_neg hn]
 refine ww ?_
 exact wwr
end Tdoc
namespace Tdoc
open Go Go.Proofs
theorem encTR_eq (l:List Tpl):encTR l=if chkTs l≠0 then ([],chkTs l) else ([.mk 32609 [] (kidsT l)],0):=by
 unfold encTR chkTs
 by_cases h:l.length < 1∨l.length > 8
 ·rw [if_pos h,if_pos h,if_pos (by decide)]
 ·rw [if_neg h,if_neg h]
theorem chkTs_valid {l:List Tpl} (h:chkTs l=0):1≤l.length∧l.length≤8∧firstT l=0:=by
 unfold chkTs at h
 split at h
 ·omega
 ·exact ⟨by omega,by omega,h⟩
theorem firstT_get:∀ {l:List Tpl},firstT l=0→∀ {i:Nat} (hi:i < l.length),validT l[i]=0
 | [],_,_,hi=>by simp at hi
 | t::l,h,i,hi=>by
  rw [firstT] at h
  have hv:validT t=0:=by
   by_cases hv:validT t=0
   ·exact hv
   ·rw [if_pos hv] at h;exact h
  rw [if_neg (by simp [hv])] at h
  cases i with
  | zero=>exact hv
  | succ i=>exact firstT_get h (by simpa using hi)
theorem encTP_spec (l:List Tpl) (hl:l.length≤1000000):Spec Tryz.prog 69 [.d (.sl 7 (encTs l))] [] (fun r h'=>r=.tup [.d (.sl 3 (encNs (encTR l).1)),.d (.int .i64 (encTR l).2)]∧h'=[]):=by
 have hll:=qDr l
 have hc:=checkT_spec l hl
 have hcv:=@chkTs_valid l
 rw [encTR_eq]
 generalize chkTs l=e at hc hcv
 refine qAb hT Tryz.func69 rfl rfl rfl rfl ?_;intro E hE
 refine ww ?_
 refine wwc hc ?_
 refine ww ?_
 refine qAa rfl (fun c1=>?_) (fun c1=>?_)
 ·have c1':e≠0:=by simpa using c1
  rw [if_pos c1']
  refine ww ?_
  exact wwr
 have c1':e=0:=by simpa using c1
 obtain ⟨g1,g2,g3⟩:=hcv c1'
 subst c1'
 rw [if_neg (by simp)]
 have hb1:encNs [.mk 2 [bOf (l.length:Int)] []]=[[Dat.int .i64 2,.sl 1 [[.int .u8 (IntKind.u8.wrap (l.length:Int))]],.sl 3 []]]:=by rw [bOf_wrap];rfl
 refine ww ?_
 refine qAo (qDn 0 2 1 3 rfl rfl rfl ?_)
 refine qBu (ι:=Nat) (fun i=>[(20,.d (.sl 7 (encTs l))),(5,.ptr 0 0),(21,.d (.int .i64 (l.length:Int))),(22,.d (.int .i64 (i:Int)))])
  (fun i=>[.row [.d (.int .i64 32609),.sl 1 [] .full,.sl 3 (encNs (.mk 2 [bOf (l.length:Int)] []::(l.take i).map objT)) (.right 1)],.right 3 (encNs (.mk 2 [bOf (l.length:Int)] []::(l.take i).map objT)).length])
  (fun i=>i≤l.length) (fun i=>l.length-i) 0 (by omega) ⟨.refl _,.refl _,.int (by rw [hll]),.refl _,trivial⟩ ⟨ObLe.row (by rw [hll];show _=[_,_,AV.sl 3 (encNs [.mk 2 [bOf (l.length:Int)] []]) (.right 1)];rw [hb1];rfl),⟨rfl,rfl⟩,trivial⟩ ?_
 intro i hi
 have hwr:IntKind.i64.wrap ((i:Int)+1)=((i+1:Nat):Int):=by rw [qAe (by omega)];simp
 have hkl:(encNs (.mk 2 [bOf (l.length:Int)] []::(l.take i).map objT)).length≤9:=by rw [qAm];simp;omega
 refine ww ?_
 refine qAa rfl (fun c2=>?_) (fun c2=>?_)
 ·have c2':i < l.length:=by have h3:(i:Int) < (l.length:Int):=(by simpa using c2);omega
  have hel:=encTs_at c2'
  have htk:encNs (.mk 2 [bOf (l.length:Int)] []::(l.take (i+1)).map objT)=encNs (.mk 2 [bOf (l.length:Int)] []::(l.take i).map objT)++[encN (objT l[i])]:=by
   rw [List.take_succ_eq_append_getElem c2',List.map_append]
   show encNs ((.mk 2 [bOf (l.length:Int)] []::(l.take i).map objT)++[objT l[i]])=_
   rw [qDs];rfl
  have ho:=objP_spec l[i] (firstT_get g3 c2')
  generalize l[i]=t at hel ho htk
  generalize encNs (.mk 2 [bOf (l.length:Int)] []::(l.take i).map objT)=ks at hkl htk ⊢
  unfold tAV tCells at ho
  refine ww ?_
  refine wwi hel ?_
  refine wwn ?_
  show AW Tryz.prog E _ _ _ _ _
  refine qBg (fun i=>bif Nat.beq i 1 then [0] else bif Nat.beq i 2 then [2] else bif Nat.beq i 5 then [1] else bif Nat.beq i 7 then [0] else []) (fun i=>bif Nat.beq i 5 then [1] else bif Nat.beq i 7 then [0] else []) mixed (by kernel_rfl) ?_
  refine wwg ?_
  refine wwdc ho ?_
  refine wwg ?_
  refine qAs (os:=[]) (fun k hk1 hk2=>qCz hT rfl rfl) rfl ?_
  refine qAs (v:=.sl 3 (ks++[encN (objT t)]) (.right 1)) (os:=[.right 3 (ks++[encN (objT t)]).length]) (fun k hk1 hk2=>qAk (i:=1) hT rfl rfl rfl rfl ((hk2 1 List.mem_cons_self).trans rfl) rfl (by show (ks.length+1)*(56+1)≤_;omega)) rfl ?_
  refine wwg ?_
  refine ww ?_
  refine ⟨i+1,[_],by omega,by omega,⟨.refl _,.refl _,.refl _,.int hwr,trivial⟩,⟨ObLe.row (by rw [htk]),⟨rfl,congrArg List.length htk.symm⟩,.refl _,trivial⟩,Env.below_mono hE (by simp),rfl,rfl⟩
 ·have c2':i=l.length:=by have h3:¬ (i:Int) < (l.length:Int):=(by simpa using c2);omega
  subst c2'
  rw [List.take_length]
  show AW Tryz.prog E _ _ _ _ _
  refine qDm (l:=[(5,.ptr 0 0)]) (h':=[.row [.d (.int .i64 32609),.d (.sl 1 []),.d (.sl 3 (encNs (kidsT l)))],.dead]) ⟨.refl _,trivial⟩ ⟨⟨.refl _,.dat,.dat,trivial⟩,trivial,trivial⟩ ?_
  refine ww ?_
  exact wwr
theorem wrHead (t:Tpl):(wrL (headT t)).length≤100:=by
 unfold headT
 have h1:=qAf 129 [bOf t.kind] [] [.mk 130 [bOf t.part] [],.mk 131 (octB 4 t.frm.toNat) [],.mk 132 (octB 4 t.til.toNat) [],.mk 133 [bOf t.qual] [],.mk 136 [bOf (t.fmt / 256),bOf t.fmt] []]
 have h2:=qAf 130 [bOf t.part] [] [.mk 131 (octB 4 t.frm.toNat) [],.mk 132 (octB 4 t.til.toNat) [],.mk 133 [bOf t.qual] [],.mk 136 [bOf (t.fmt / 256),bOf t.fmt] []]
 have h3:=qAf 131 (octB 4 t.frm.toNat) [] [.mk 132 (octB 4 t.til.toNat) [],.mk 133 [bOf t.qual] [],.mk 136 [bOf (t.fmt / 256),bOf t.fmt] []]
 have h4:=qAf 132 (octB 4 t.til.toNat) [] [.mk 133 [bOf t.qual] [],.mk 136 [bOf (t.fmt / 256),bOf t.fmt] []]
 have h5:=qAf 133 [bOf t.qual] [] [.mk 136 [bOf (t.fmt / 256),bOf t.fmt] []]
 have h6:=qAf 136 [bOf (t.fmt / 256),bOf t.fmt] [] []
 have h0:(wrL ([]:List Node)).length=0:=rfl
 simp only [List.length_cons,List.length_nil,qBv] at *
 omega
theorem wrObj (t:Tpl) (r:List Node) (hv:validT t=0):(wrL (objT t::r)).length≤2000+(wrL r).length:=by
 have ok:=validT_ok hv
 unfold objT
 have h1:=qAf 32608 [] [.mk 161 [] (headT t),.mk 24366 t.data []] r
 have h2:=qAf 161 [] (headT t) [.mk 24366 t.data []]
 have h3:=qAf 24366 t.data [] []
 have h4:=wrHead t
 have h0:(wrL ([]:List Node)).length=0:=rfl
 simp only [List.length_nil] at *
 omega
theorem wrObjs:∀ (l:List Tpl),firstT l=0→(wrL (l.map objT)).length≤l.length*2000
 | [],_=>by show (0:Nat)≤_;omega
 | t::l,h=>by
  have hv:=firstT_get h (i:=0) (by simp)
  have hl:firstT l=0:=by
   rw [firstT,if_neg (by show ¬ validT t≠0;exact fun hh=>hh hv)] at h;exact h
  have h1:=wrObj t (l.map objT) hv
  have h2:=wrObjs l hl
  simp only [List.map_cons,List.length_cons]
  omega
theorem wrEnc (l:List Tpl):(wrL (encTR l).1).length≤100000:=by
 have h0:(wrL ([]:List Node)).length=0:=rfl
 rw [encTR_eq]
 by_cases hc:chkTs l=0
 ·rw [if_neg (by simp [hc])]
  obtain ⟨g1,g2,g3⟩:=chkTs_valid hc
  have h1:=wrObjs l g3
  have h2:=qAf 32609 [] (kidsT l) []
  have h3:=qAf 2 [bOf (l.length:Int)] [] (l.map objT)
  unfold kidsT at h2 ⊢
  simp only [List.length_nil,List.length_singleton] at *
  omega
 ·rw [if_pos hc]
  simp only [h0];omega
theorem bioP_spec (n:Int) (hn : -9223372036854775807≤n∧n≤9223372036854775807) (l:List Tpl) (hl:l.length≤1000000):Spec Tryz.prog 28 [.d (.int .i64 n),.d (.sl 7 (encTs l))] [] (fun r h'=>r=.tup [.d (.sl 1 (encB (bioF n l).1)),.d (.int .i64 (bioF n l).2)]∧h'=[]):=by
 have he:=encTP_spec l hl
 have hft:=kinds_spec n hn l hl
 have hbm:=biometric_spec n
 obtain ⟨f1,f2,f3⟩:=encTR_fit l
 have hw:=Wrap_spec n (by omega) (encTR l).1 (by omega) f1 (by omega) (by have:=wrEnc l;omega)
 unfold bioF
 generalize encTR l=q at he hw
 obtain ⟨k,e⟩:=q
 simp only at he hw ⊢
 generalize fitsT n l=ft at hft
 generalize wrapG n k=w at hw
 obtain ⟨w,we⟩:=w
 simp only at hw ⊢
 generalize encNs k=ks at he hw
 generalize encTs l=ts at he hft
 refine qAb hT Tryz.func28 rfl rfl rfl rfl ?_;intro E hE
 refine ww ?_
 refine wwc hbm ?_
 refine ww ?_
 refine qAa rfl (fun c1=>?_) (fun c1=>?_)
 ·have c1':¬ (n≥2∧n≤4):=by simp only [Bool.not_eq_true',Bool.and_eq_false_iff,decide_eq_false_iff_not] at c1;omega
  rw [if_pos (by omega)]
  refine ww ?_
  exact wwr
 have c1':¬ (n < 2∨n > 4):=by simp only [Bool.not_eq_false',Bool.and_eq_true,decide_eq_true_eq] at c1;omega
 rw [if_neg c1']
 refine ww ?_
 refine wwc he ?_
 refine ww ?_
 refine qAa rfl (fun c2=>?_) (fun c2=>?_)
 ·have c2':e≠0:=by simpa using c2
  rw [if_pos c2']
  refine ww ?_
  exact wwr
 have c2':¬ e≠0:=by simpa using c2
 rw [if_neg c2']
 refine ww ?_
 refine wwc hft ?_
 refine ww ?_
 refine qAa rfl (fun c3=>?_) (fun c3=>?_)
 ·have c3':ft=false:=by simpa using c3
  rw [if_pos c3']
  refine ww ?_
  exact wwr
 have c3':¬ ft=false:=by simpa using c3
 rw [if_neg c3']
 refine ww ?_
 refine wwc hw ?_
 refine ww ?_
 exact wwr
end Tdoc
namespace Tdoc
open Go Go.Proofs
def deT (n:Int):List Int:=if n=11 then [24334,24336,24337,24386,24338,24339,24340,24341] else [24345,24358,24347,24405]
theorem deT_has (n t:Int):(deT n).any (fun x=>t == x)=belongsF n t:=by
 unfold deT belongsF
 split
 ·rw [Bool.eq_iff_iff];simp;omega
 ·rw [Bool.eq_iff_iff];simp
theorem detailed_spec (n:Int) (hn:n=11∨n=12):Spec Tryz.prog 73 [.d (.int .i64 n)] [] (fun r h'=>r=.d (.sl 1 (encI (deT n)))∧h'=[]):=by
 by_cases h:n=11
 ·subst h
  refine qAb hT Tryz.func73 rfl rfl rfl rfl ?_;intro E hE
  refine ww ?_
  refine qAa rfl (fun c1=>?_) (fun c1=>?_)
  ·refine ww ?_
   exact wwr
  ·exact absurd c1 (by simp)
 ·obtain rfl:n=12:=by omega
  refine qAb hT Tryz.func73 rfl rfl rfl rfl ?_;intro E hE
  refine ww ?_
  refine qAa rfl (fun c1=>?_) (fun c1=>?_)
  ·exact absurd c1 (by simp)
  refine ww ?_
  refine qAa rfl (fun c2=>?_) (fun c2=>?_)
  ·refine ww ?_
   exact wwr
  ·exact absurd c2 (by simp)
theorem detailed_none (n:Int) (hn:¬ (n=11∨n=12)):Spec Tryz.prog 73 [.d (.int .i64 n)] [] (fun r h'=>r=.nils∧h'=[]):=by
 refine qAb hT Tryz.func73 rfl rfl rfl rfl ?_;intro E hE
 refine ww ?_
 refine qAa rfl (fun c1=>?_) (fun c1=>?_)
 ·exfalso;have:n=11:=by simpa using c1
  omega
 refine ww ?_
 refine qAa rfl (fun c2=>?_) (fun c2=>?_)
 ·exfalso;have:n=12:=by simpa using c2
  omega
 refine wwe ?_
 refine ww ?_
 exact wwr
theorem IndexI_spec (l:List Int) (v:Int) (hl:l.length≤1000000):Spec Tryz.prog 202 [.d (.sl 1 (encI l)),.d (.int .i64 v)] [] (fun r h'=>r=.d (.int .i64 (fIdx (fun x=>v == x) l))∧h'=[]):=by
 have hlen:(encI l).length=l.length:=by simp [encI]
 refine qAb hT Tryz.func202 rfl rfl rfl rfl ?_;intro E hE
 refine ww ?_
 refine qAq (ι:=Nat) (fun k=>[(0,.d (.sl 1 (encI l))),(1,.d (.int .i64 v)),(7,.d (.int .i64 ((encI l).length:Int))),(8,.d (.int .i64 (k:Int)))]) (fun _=>[]) (fun k=>k≤l.length∧∀ j,(hj:j < k)→(hj2:j < l.length)→(v == l[j])=false) (fun k=>l.length-k) 0
  ⟨by omega,fun j hj=>by omega⟩ ⟨.refl _,.refl _,.refl _,.refl _,trivial⟩ (HLe.refl _) ?_
 rintro k ⟨hk,hb⟩
 have hwr:IntKind.i64.wrap ((k:Int)+1)=((k+1:Nat):Int):=by rw [qAe (by omega)];omega
 refine ww ?_
 refine qAa rfl (fun c1=>?_) (fun c1=>?_)
 ·have hlt:k < l.length:=by rw [hlen] at c1;simpa using c1
  have hel:(encI l)[((k:Int)).toNat]?=some [.int .i64 l[k]]:=by simp [encI,hlt]
  generalize hc:l[k]=c at hel
  refine ww ?_
  refine wwi hel ?_
  refine ww ?_
  refine qAa rfl (fun c2=>?_) (fun c2=>?_)
  ·refine ww ?_
   refine qAg rfl (.refl _) rfl rfl rfl rfl ⟨?_,rfl⟩
   show AV.d (.int .i64 (k:Int))=_
   rw [fIdx_at (p:=fun x=>v == x) hlt (by rw [hc];exact c2) (fun j hj hj2=>hb j hj hj2)]
  ·refine ww ?_
   refine ⟨k+1,⟨by omega,fun j hj hj2=>?_⟩,by omega,⟨.refl _,.refl _,.refl _,.int hwr,trivial⟩,HLe.refl _⟩
   by_cases hjk:j=k
   ·subst hjk;rw [hc];exact c2
   ·exact hb j (by omega) hj2
 ·have hge:k=l.length:=by rw [hlen] at c1;simp at c1;omega
  refine ww ?_
  refine qAg rfl (.refl _) rfl rfl rfl rfl ⟨?_,rfl⟩
  show AV.d (.int .i64 (-1))=_
  rw [fIdx_none (p:=fun x=>v == x) (fun j hj=>hb j (by omega) hj)]
theorem ContainsI_spec (l:List Int) (v:Int) (hl:l.length≤1000000):Spec Tryz.prog 134 [.d (.sl 1 (encI l)),.d (.int .i64 v)] [] (fun r h'=>r=.d (.bool (l.any fun x=>v == x))∧h'=[]):=by
 have hs:=IndexI_spec l v hl
 rw [← fIdx_any]
 generalize fIdx (fun x=>v == x) l=k at hs
 refine qAb hT Tryz.func134 rfl rfl rfl rfl ?_;intro E hE
 refine ww ?_
 refine wwc hs ?_
 refine ww ?_
 exact wwr
end Tdoc
namespace Tdoc
open Go Go.Proofs
def dAV (x:Det):AV:=.agg [.d (.int .i64 x.tag),.d (.str x.text)]
def PredD (g:FuncId) (first cap:List AV) (H:List AObj) (p:Det→Bool) (l:List Det):Prop :=
 ∀ c,c∈l→Spec Tryz.prog g (first++([dAV c]++cap)) H (fun r h'=>r=.d (.bool (p c))∧h'=H)
theorem IndexFuncD_spec {l:List Det} {g:FuncId} {first cap:List AV} {H:List AObj} {p:Det→Bool} (hp:PredD g first cap H p l) (hH:lowH H.length H=true) (h1:lowL H.length first=true) (h2:lowL H.length cap=true) (hl:l.length≤1000000000) :
  Spec Tryz.prog 203 [.d (.sl 2 (encDs l)),.fn (.func g) first cap] H (fun r h'=>r=.d (.int .i64 (fIdx p l))∧h'=H):=by
 refine qAb hT Tryz.func203 rfl rfl rfl rfl ?_
 intro E hE
 have hlen:=qCn l
 refine ww ?_
 refine qAq (ι:=Nat) (fun k=>[(0,.d (.sl 2 (encDs l))),(1,.fn (.func g) first cap),(7,.d (.int .i64 (encDs l).length)),(8,.d (.int .i64 k))]) (fun _=>H) (fun k=>k≤l.length∧∀ j,(hj:j < k)→(hj2:j < l.length)→p l[j]=false) (fun k=>l.length-k) 0
  ⟨by omega,fun j hj=>by omega⟩ ⟨.refl _,.refl _,.refl _,.refl _,trivial⟩ (HLe.refl _) ?_
 intro k ⟨hk,hb⟩
 refine ww ?_
 refine qAa rfl (fun h1'=>?_) (fun h1'=>?_)
 ·have hlt:k < l.length:=by rw [hlen] at h1';simpa using h1'
  have hel:=encDs_at hlt
  have hpk:=hp l[k] (List.getElem_mem hlt)
  generalize hc:l[k]=c at hel hpk
  obtain ⟨c1,c2⟩:=c
  unfold encD at hel
  simp only at hel
  refine ww ?_
  refine qAd (qAc (qAi hT rfl rfl rfl rfl (by omega) hel)) rfl ?_
  refine ww ?_
  refine AWk_opR (callSame (Q:=fun r h'=>r=.d (.bool (p ⟨c1,c2⟩))∧h'=H) rfl rfl (hpk.mono (fun r h' ⟨q1,q2⟩=>⟨⟨q1,q2⟩,by rw [q1];rfl,by rw [q2];exact hH⟩)) hH rfl ?_) rfl ?_
  ·have:∀ (a b:List AV),lowL H.length a=true→lowL H.length b=true→lowL H.length (a++b)=true:=by
    intro a
    induction a with
    | nil=>intro b _ hb;exact hb
    | cons x a ih=>intro b ha hb;simp only [lowL,Bool.and_eq_true,List.cons_append] at ha ⊢;exact ⟨ha.1,ih b ha.2 hb⟩
   exact this _ _ h1 (this [_] _ (by simp [lowL,low,dAV]) h2)
  rintro v h' ⟨rfl,rfl⟩
  refine ww ?_
  refine qAa rfl (fun h2'=>?_) (fun h2'=>?_)
  ·refine ww ?_
   refine qAg rfl (.refl _) (by simp) rfl rfl hH ⟨?_,rfl⟩
   show AV.d (.int .i64 (k:Int))=_
   rw [fIdx_at hlt (by rw [hc];exact h2') (fun j hj hj2=>hb j hj hj2)]
  ·refine ww ?_
   refine ⟨k+1,⟨by omega,fun j hj hj2=>?_⟩,by omega,⟨.refl _,.refl _,.refl _,AV.le.eq ?_,trivial⟩,HLe.refl _⟩
   ·by_cases hjk:j=k
    ·subst hjk;rw [hc];exact h2'
    ·exact hb j (by omega) hj2
   ·show AV.d (.int .i64 (IntKind.i64.wrap ((k:Int)+1)))=_
    rw [qAe (by omega)];rfl
 ·have hge:k=l.length:=by rw [hlen] at h1';simp at h1';omega
  refine ww ?_
  refine qAg rfl (.refl _) (by simp) rfl rfl hH ⟨?_,rfl⟩
  show AV.d (.int .i64 (-1))=_
  rw [fIdx_none (fun j hj=>hb j (by omega) hj)]
theorem ContainsFuncD_spec {l:List Det} {g:FuncId} {first cap:List AV} {H:List AObj} {p:Det→Bool} (hp:PredD g first cap H p l) (hH:lowH H.length H=true) (h1:lowL H.length first=true) (h2:lowL H.length cap=true) (hl:l.length≤1000000000) :
  Spec Tryz.prog 135 [.d (.sl 2 (encDs l)),.fn (.func g) first cap] H (fun r h'=>r=.d (.bool (l.any p))∧h'=H):=by
 refine qAb hT Tryz.func135 rfl rfl rfl rfl ?_
 intro E hE
 have hs:=IndexFuncD_spec hp hH h1 h2 hl
 refine ww ?_
 refine AWk_opR (callSame (Q:=fun r h'=>r=.d (.int .i64 (fIdx p l))∧h'=H) rfl rfl (hs.mono (fun r h' ⟨q1,q2⟩=>⟨⟨q1,q2⟩,by rw [q1];rfl,by rw [q2];exact hH⟩)) hH rfl ?_) rfl ?_
 ·simp [lowL,low,h1,h2]
 rintro v h' ⟨rfl,rfl⟩
 refine ww ?_
 refine qAg rfl (.refl _) (by simp) rfl rfl hH ⟨?_,rfl⟩
 show AV.d (.bool (decide (fIdx p l≥0)))=_
 rw [fIdx_any]
theorem check1_spec (t:Int) (s:List UInt8) (x:Det):Spec Tryz.prog 136 ([]++([dAV x]++[.ptr 0 0])) [.row [.d (.int .i64 t),.d (.str s)]] (fun r h'=>r=.d (.bool (x.tag == t))∧h'=[.row [.d (.int .i64 t),.d (.str s)]]):=by
 obtain ⟨c1,c2⟩:=x
 unfold dAV
 simp only
 refine qAb hT Tryz.func136 rfl rfl rfl rfl ?_;intro E hE
 refine qAo ?_
 refine wwe ?_
 refine qAu (qAn ?_)
 refine qAd (qCg (i0:=1) rfl rfl rfl) rfl ?_
 refine ww ?_
 exact qAg rfl (.refl _) rfl rfl rfl rfl ⟨rfl,rfl⟩
def chkDs (n:Int) (l:List Det):Int:=if l.length > 16 then 2 else detL n [] l
theorem checkD_spec (n:Int) (hn:n=11∨n=12) (l:List Det) (hl:l.length≤1000000):Spec Tryz.prog 74 [.d (.int .i64 n),.d (.sl 2 (encDs l))] [] (fun r h'=>r=.d (.int .i64 (chkDs n l))∧h'=[]):=by
 have hll:=qCn l
 have hdt:=detailed_spec n hn
 have hdl:(deT n).length≤1000000:=by unfold deT;split <;> simp
 unfold chkDs
 by_cases h1:l.length > 16
 case pos =>
  rw [if_pos h1]
  refine qAb hT Tryz.func74 rfl rfl rfl rfl ?_;intro E hE
  refine ww ?_
  refine qAa rfl (fun c1=>?_) (fun c1=>?_)
  ·refine ww ?_
   exact wwr
  ·exfalso
   rw [hll] at c1
   simp at c1
   omega
 rw [if_neg h1]
 generalize hfin:detL n [] l=fin
 refine qAb hT Tryz.func74 rfl rfl rfl rfl ?_;intro E hE
 refine ww ?_
 refine qAa rfl (fun c1=>?_) (fun c1=>?_)
 ·exfalso
  rw [hll] at c1
  simp at c1
  omega
 refine ww ?_
 refine qBu (ι:=Nat) (fun i=>[(0,.d (.int .i64 n)),(1,.d (.sl 2 (encDs l))),(10,.d (.sl 2 (encDs l))),(11,.d (.int .i64 ((encDs l).length:Int))),(12,.d (.int .i64 (i:Int)))]) (fun _=>[])
  (fun i=>i≤l.length∧detL n (l.take i) (l.drop i)=fin) (fun i=>l.length-i) 0 ⟨by omega,by simpa using hfin⟩ ⟨.refl _,.refl _,.refl _,.refl _,.refl _,trivial⟩ (HLe.refl _) ?_
 rintro i ⟨hi,hg⟩
 have hwr:IntKind.i64.wrap ((i:Int)+1)=((i+1:Nat):Int):=by rw [qAe (by omega)];simp
 refine ww ?_
 refine qAa rfl (fun c2=>?_) (fun c2=>?_)
 ·have c2':i < l.length:=by rw [hll] at c2;simpa using c2
  have hel:=encDs_at c2'
  have hdr:l.drop i=l[i]::l.drop (i+1):=List.drop_eq_getElem_cons c2'
  have htk:l.take (i+1)=l.take i++[l[i]]:=List.take_succ_eq_append_getElem c2'
  rw [hdr,detL] at hg
  generalize l[i]=x at hel hg htk
  obtain ⟨xt,xs⟩:=x
  unfold encD at hel
  simp only at hel hg
  have hct:=ContainsI_spec (deT n) xt hdl
  rw [deT_has] at hct
  have hcf:=ContainsFuncD_spec (p:=fun y=>y.tag == xt) (l:=l.take i) (fun y hy=>check1_spec xt xs y) rfl rfl rfl (by rw [List.length_take];omega)
  rw [show ((l.take i).any fun y=>y.tag == xt)=((l.take i).any fun y=>decide (y.tag=xt)) from rfl] at hcf
  generalize belongsF n xt=b1 at hct hg
  generalize ((l.take i).any fun y=>decide (y.tag=xt))=b2 at hcf hg
  refine ww ?_
  refine wwi hel ?_
  refine ww ?_
  refine wwc hdt ?_
  refine ww ?_
  refine wwc hct ?_
  refine ww ?_
  refine qAa rfl (fun c3=>?_) (fun c3=>?_)
  ·have hn:b1=false:=by simpa using c3
   rw [if_pos hn] at hg
   subst hg
   refine ww ?_
   exact wwr
  have hn:¬ b1=false:=by simpa using c3
  rw [if_neg hn] at hg
  have hcl:(encDs l).take ((i:Int)).toNat=encDs (l.take i):=by
   rw [Int.toNat_natCast]
   simp [encDs,List.map_take]
  refine ww ?_
  rw [hcl]
  refine qAd (callS1 rfl rfl (hcf) [0] (by decide) rfl rfl rfl rfl rfl rfl rfl) rfl ?_
  refine ww ?_
  refine qAa rfl (fun c4=>?_) (fun c4=>?_)
  ·rw [if_pos c4] at hg
   subst hg
   refine ww ?_
   exact wwr
  rw [if_neg (by rw [c4];simp)] at hg
  refine ww ?_
  refine qAa rfl (fun c5=>?_) (fun c5=>?_)
  ·have c5':xs.length < 1∨xs.length > 99:=by
    simp only [Bool.or_eq_true,decide_eq_true_eq] at c5
    omega
   rw [if_pos c5'] at hg
   subst hg
   refine ww ?_
   exact wwr
  have c5':¬ (xs.length < 1∨xs.length > 99):=by
   simp only [Bool.or_eq_false_iff,decide_eq_false_iff_not] at c5
   omega
  rw [if_neg c5'] at hg
  refine ww ?_
  exact ⟨i+1,[_],⟨c2',by rw [htk];exact hg⟩,by omega,⟨.refl _,.refl _,.refl _,.refl _,.int hwr,trivial⟩,HLe.refl _,Env.below_mono hE (by simp),rfl,rfl⟩
 ·have c2':i=l.length:=by rw [hll] at c2;simp at c2;omega
  subst c2'
  rw [List.drop_length,detL] at hg
  subst hg
  refine ww ?_
  exact wwr
end Tdoc
namespace Tdoc
open Go
theorem belongs_tag {n t:Int} (h:belongsF n t=true):tagOk t=true∧tagCons t=false:=by
 have ht:t=24334∨t=24336∨t=24337∨t=24338∨t=24339∨t=24340∨t=24341∨t=24386∨t=24345∨t=24358∨t=24347∨t=24405:=by
  unfold belongsF at h
  split at h
  ·simp at h;omega
  ·simp at h;omega
 rcases ht with rfl | rfl | rfl | rfl | rfl | rfl | rfl | rfl | rfl | rfl | rfl | rfl <;> exact ⟨by decide,by decide⟩
theorem detL_all (n:Int):∀ (l seen:List Det),detL n seen l=0→∀ x,x∈l→belongsF n x.tag=true∧x.text.length≤99
 | [],_,_,x,hx=>by cases hx
 | y::l,seen,h,x,hx=>by
  rw [detL] at h
  by_cases h1:belongsF n y.tag=false
  ·rw [if_pos h1] at h;cases h
  rw [if_neg h1] at h
  by_cases h2:(seen.any fun z=>decide (z.tag=y.tag))=true
  ·rw [if_pos h2] at h;cases h
  rw [if_neg h2] at h
  by_cases h3:y.text.length < 1∨y.text.length > 99
  ·rw [if_pos h3] at h;cases h
  rw [if_neg h3] at h
  cases hx with
  | head=>exact ⟨by simpa using h1,by omega⟩
  | tail _ hx=>exact detL_all n l _ h x hx
theorem chkL_kids (d:Nat) (hd:d≤8):∀ (l:List Det) (c:Nat),(∀ x,x∈l→tagOk x.tag=true∧tagCons x.tag=false)→chkL d (kidsD l) c=(0,c+l.length)
 | [],c,_=>rfl
 | x::l,c,h=>by
  obtain ⟨h1,h2⟩:=h x List.mem_cons_self
  have hx:chkN d (.mk x.tag x.text []) c=(0,c+1):=by
   rw [chkN,if_neg (by rw [h1];simp),if_neg (by rw [h2];simp),if_neg (by omega)]
   rfl
  show chkL d (.mk x.tag x.text []::kidsD l) c=_
  rw [chkL,hx,if_pos rfl,chkL_kids d hd l (c+1) (fun y hy=>h y (List.mem_cons_of_mem _ hy)),List.length_cons]
  congr 1;omega
theorem wrL_kids:∀ (l:List Det),(∀ x,x∈l→x.text.length≤99)→(wrL (kidsD l)).length≤110*l.length
 | [],_=>by simp [kidsD,wrL]
 | x::l,h=>by
  have h1:=h x List.mem_cons_self
  have h2:=wrL_kids l fun y hy=>h y (List.mem_cons_of_mem _ hy)
  have h3:=qAf x.tag x.text [] (kidsD l)
  have h4:(wrL ([]:List Node)).length=0:=rfl
  show (wrL (.mk x.tag x.text []::kidsD l)).length≤_
  simp only [List.length_cons]
  omega
theorem detF_chk (n:Int) (hn:n=11∨n=12) (l:List Det):(detF n l).2=chkDs n l:=by
 unfold detF chkDs
 rw [if_neg (by omega)]
 by_cases h1:l.length > 16
 ·rw [if_pos h1,if_pos h1]
 rw [if_neg h1,if_neg h1]
 by_cases h2:detL n [] l≠0
 ·rw [if_pos h2]
 rw [if_neg h2]
 have h2':detL n [] l=0:=by simpa using h2
 rw [h2']
 have hall:=detL_all n l [] h2'
 have hk:=fun (d:Nat) (hd:d≤8) (c:Nat)=>chkL_kids d hd l c (fun x hx=>belongs_tag (hall x hx).1)
 have hw:=wrL_kids l (fun x hx=>(hall x hx).2)
 have hl2:=listD_length l
 have hch:∀ t:Int,tagOk t=true→tagCons t=true→(encodeP [.mk t [] (.mk 92 (listD l) []::kidsD l)]).2=0:=by
  intro t ht hc
  have e1:chkN 2 (.mk 92 (listD l) []) 1=(0,2):=by
   have hc92:tagCons 92=false:=by decide
   rw [chkN,if_neg (by decide),if_neg (by simp [hc92]),if_neg (by omega)];rfl
  have e2:chkL 2 (.mk 92 (listD l) []::kidsD l) 1=(0,2+l.length):=by
   rw [chkL,e1,if_pos rfl,hk 2 (by omega)]
  have e3:chkL 1 [.mk t [] (.mk 92 (listD l) []::kidsD l)] 0=(0,2+l.length):=by
   have e4:chkN 1 (.mk t [] (.mk 92 (listD l) []::kidsD l)) 0=(0,2+l.length):=by
    rw [chkN,if_neg (by rw [ht];simp),if_neg (by rw [hc];simp),if_neg (by omega)]
    exact e2
   rw [chkL,e4,if_pos rfl];rfl
  have w1:=qAf t [] (.mk 92 (listD l) []::kidsD l) []
  have w2:=qAf 92 (listD l) [] (kidsD l)
  have w4:(wrL ([]:List Node)).length=0:=rfl
  simp only [List.length_nil] at w1
  unfold encodeP
  rw [e3,if_neg (by simp),if_neg (by simp only;omega),if_neg (by omega)]
 unfold wrapG
 rcases hn with rfl | rfl
 ·rw [if_neg (by decide)]
  exact hch _ (by decide) (by decide)
 ·rw [if_neg (by decide)]
  exact hch _ (by decide) (by decide)
def tagsB (r:List Node):List UInt8:=(r.map fun x=>[bOf (tagN x / 256),bOf (tagN x)]).flatten
def detsN (r:List Node):List Det:=r.map fun x=>⟨tagN x,valN x⟩
theorem nb_two {hi lo:UInt8} {t:Int} (ht:0≤t∧t < 65536):((nbN [hi,lo]:Nat):Int)=t↔bOf (t / 256)=hi∧bOf t=lo:=by
 have h1:=UInt8.toNat_lt hi
 have h2:=UInt8.toNat_lt lo
 have e:nbN [hi,lo]=256*hi.toNat+lo.toNat:=by simp [nbN]
 rw [e]
 have ek:∀ (a:Int) (c:UInt8),bOf a=c↔a % 256=(c.toNat:Int):=fun a c=>by
  unfold bOf
  constructor
  ·intro h
   rw [← h]
   simp
   omega
  ·intro h
   apply UInt8.toNat_inj.1
   simp
   omega
 rw [ek,ek]
 omega
theorem detG_eq:∀ (r:List Node) (v:List UInt8),(∀ x,x∈r→(0≤tagN x∧tagN x < 65536)∧(tagCons (tagN x)=false→kidN x=[])) →
  detG v r=if (r.all fun x=>!tagCons (tagN x))=true∧tagsB r=v then some (detsN r) else none
 | [],[],_=>by simp [detG,tagsB,detsN]
 | [],c::t,_=>by
  rw [if_neg (by simp [tagsB])]
  cases t <;> rfl
 | x::r,v,h=>by
  obtain ⟨h1,h2⟩:=h x List.mem_cons_self
  have ih:=fun v=>detG_eq r v fun y hy=>h y (List.mem_cons_of_mem _ hy)
  have htb:tagsB (x::r)=bOf (tagN x / 256)::bOf (tagN x)::tagsB r:=rfl
  have hdd:detsN (x::r)=⟨tagN x,valN x⟩::detsN r:=rfl
  rw [htb,hdd]
  match v with
  | []=>rw [if_neg (by simp)];rfl
  | [_]=>rw [if_neg (by simp)];rfl
  | hi::lo::v =>
   rw [detG]
   by_cases hb:bOf (tagN x / 256)=hi∧bOf (tagN x)=lo
   ·have hn:=(nb_two (hi:=hi) (lo:=lo) h1).2 hb
    rw [hn,ih v]
    cases hc:tagCons (tagN x)
    ·have hpr:primF x (tagN x) (-1)=true:=primF_iff.2 ⟨rfl,h2 hc,.inl (by omega)⟩
     rw [if_neg (by rw [hpr];simp),hb.1,hb.2]
     simp only [List.all_cons,hc,Bool.not_false,Bool.true_and,List.cons.injEq,true_and]
     split <;> rfl
    ·rw [if_pos (.inl rfl),if_neg (by simp [hc])]
   ·have hn:((nbN [hi,lo]:Nat):Int)≠tagN x:=fun h=>hb ((nb_two h1).1 h)
    have hpr:primF x ((nbN [hi,lo]:Nat):Int) (-1)=false:=by
     cases hp:primF x ((nbN [hi,lo]:Nat):Int) (-1)
     ·rfl
     ·exact absurd (primF_iff.1 hp).1.symm hn
    rw [if_pos (.inr hpr),if_neg (fun h=>hb (by simp only [List.cons.injEq] at h;exact ⟨h.2.1,h.2.2.1⟩))]
end Tdoc
namespace Tdoc
open Go Go.Proofs
theorem detF_eq (n:Int) (hn:n=11∨n=12) (l:List Det):detF n l=if chkDs n l≠0 then ([],chkDs n l) else wrapG n (.mk 92 (listD l) []::kidsD l):=by
 unfold detF chkDs
 rw [if_neg (by omega)]
 by_cases h:l.length > 16
 ·rw [if_pos h,if_pos h,if_pos (by decide)]
 ·rw [if_neg h,if_neg h]
theorem wrKidsD:∀ (l:List Det),(∀ x∈l,x.text.length≤99)→(wrL (kidsD l)).length≤l.length*110
 | [],_=>by show (0:Nat)≤_;omega
 | x::l,h=>by
  have h1:=qAf x.tag x.text [] (kidsD l)
  have h2:=wrKidsD l fun y hy=>h y (List.mem_cons_of_mem _ hy)
  have h3:=h x List.mem_cons_self
  have h0:(wrL ([]:List Node)).length=0:=rfl
  have e:kidsD (x::l)=.mk x.tag x.text []::kidsD l:=rfl
  rw [e]
  simp only [List.length_cons] at *
  omega
theorem detP_spec (n:Int) (hn : -9223372036854775807≤n∧n≤9223372036854775807) (l:List Det) (hl:l.length≤1000000):Spec Tryz.prog 30 [.d (.int .i64 n),.d (.sl 2 (encDs l))] [] (fun r h'=>r=.tup [.d (.sl 1 (encB (detF n l).1)),.d (.int .i64 (detF n l).2)]∧h'=[]):=by
 have hll:=qCn l
 by_cases hn2:n=11∨n=12
 case neg =>
  have hdn:=detailed_none n hn2
  unfold detF
  rw [if_pos (by omega)]
  refine qAb hT Tryz.func30 rfl rfl rfl rfl ?_;intro E hE
  refine ww ?_
  refine wwc hdn ?_
  refine ww ?_
  refine qAd (qAc (sliceNil_ok rfl rfl Tryz.underlying22 rfl)) rfl ?_
  refine ww ?_
  refine qAa rfl (fun c1=>?_) (fun c1=>?_)
  case refine_2=>exact absurd c1 (by simp)
  refine ww ?_
  exact wwr
 have hdt:=detailed_spec n hn2
 obtain ⟨d0,dl,hde⟩:∃ d0 dl,encI (deT n)=d0::dl:=by rcases hn2 with rfl | rfl <;> exact ⟨_,_,rfl⟩
 rw [hde] at hdt
 have hc:=checkD_spec n hn2 l hl
 rw [detF_eq n hn2]
 have hok:chkDs n l=0→l.length≤16∧detL n [] l=0:=fun h=>by
  unfold chkDs at h
  split at h
  ·omega
  ·exact ⟨by omega,h⟩
 generalize chkDs n l=e at hc hok
 refine qAb hT Tryz.func30 rfl rfl rfl rfl ?_;intro E hE
 refine ww ?_
 refine wwc hdt ?_
 refine ww ?_
 refine qAd (qAc (sliceNil_ok rfl rfl Tryz.underlying22 rfl)) rfl ?_
 refine ww ?_
 refine qAa rfl (fun c1=>?_) (fun c1=>?_)
 ·exact absurd c1 (by simp)
 refine ww ?_
 refine wwc hc ?_
 refine ww ?_
 refine qAa rfl (fun c2=>?_) (fun c2=>?_)
 ·have c2':e≠0:=by simpa using c2
  rw [if_pos c2']
  refine ww ?_
  exact wwr
 have c2':e=0:=by simpa using c2
 obtain ⟨g1,g2⟩:=hok c2'
 subst c2'
 rw [if_neg (by simp)]
 refine ww ?_
 refine qAo (qDn 0 1 1 1 rfl rfl rfl ?_)
 refine qAo ?_
 refine qBh 8 3 2 (es:=[]) (.inr ⟨rfl,rfl⟩) rfl ?_
 refine qBu (ι:=Nat) (fun i=>[(0,.d (.int .i64 n)),(7,.ptr 0 0),(8,.sl 3 (encNs (kidsD (l.take i))) (.right 2)),(21,.d (.sl 2 (encDs l))),(22,.d (.int .i64 (l.length:Int))),(23,.d (.int .i64 (i:Int)))])
  (fun i=>[.row [.d (.int .i64 92),.sl 1 (encB (listD (l.take i))) (.right 1),.sl 3 [] .full],.right 1 (encB (listD (l.take i))).length,.right 3 (encNs (kidsD (l.take i))).length])
  (fun i=>i≤l.length) (fun i=>l.length-i) 0 (by omega) ⟨.refl _,.refl _,.refl _,.refl _,.int (by rw [hll]),.refl _,trivial⟩ (HLe.refl _) ?_
 intro i hi
 have hwr:IntKind.i64.wrap ((i:Int)+1)=((i+1:Nat):Int):=by rw [qAe (by omega)];simp
 have hl1:(encB (listD (l.take i))).length≤32:=by rw [qAl,listD_length,List.length_take];omega
 have hl2:(encNs (kidsD (l.take i))).length≤16:=by rw [qAm];simp [kidsD];omega
 refine ww ?_
 refine qAa rfl (fun c3=>?_) (fun c3=>?_)
 ·have c3':i < l.length:=by have h3:(i:Int) < (l.length:Int):=(by simpa using c3);omega
  have hel:=encDs_at c3'
  have htk1:l.take (i+1)=l.take i++[l[i]]:=List.take_succ_eq_append_getElem c3'
  have ht1:encB (listD (l.take (i+1)))=encB (listD (l.take i))++[[.int .u8 (IntKind.u8.wrap (Int.fdiv (l[i]).tag (2 ^ (min (8:Int).toNat IntKind.i64.bits))))],[.int .u8 (IntKind.u8.wrap (l[i]).tag)]]:=by rw [htk1,listD_append,qCj,bOf_hi,bOf_wrap];rfl
  have ht2:encNs (kidsD (l.take (i+1)))=encNs (kidsD (l.take i))++[encN (.mk (l[i]).tag (l[i]).text [])]:=by rw [htk1,kidsD_append,qDs];rfl
  generalize hx:l[i]=x at hel ht1 ht2
  obtain ⟨tg,tx⟩:=x
  unfold encD at hel
  simp only at hel ht1 ht2
  generalize encB (listD (l.take i))=lb at hl1 ht1 ⊢
  generalize encNs (kidsD (l.take i))=kb at hl2 ht2 ⊢
  refine ww ?_
  refine wwi hel ?_
  refine ww ?_
  refine qAd (qAk (i:=1) hT rfl rfl rfl rfl rfl rfl (by show (lb.length+2)*(1+1)≤_;omega)) rfl ?_
  refine ww ?_
  refine qAd (strBytes_ok (s:=tx) hT rfl rfl rfl) rfl ?_
  refine ww ?_
  refine qAd (qAk (i:=2) hT rfl rfl rfl rfl rfl rfl (by show (kb.length+1)*(56+1)≤_;omega)) rfl ?_
  refine ww ?_
  refine ⟨i+1,[_],by omega,by omega,⟨.refl _,.refl _,AV.le.eq (by rw [ht2];rfl),.refl _,.refl _,.int hwr,trivial⟩,⟨ObLe.row (by rw [ht1]),⟨rfl,congrArg List.length ht1.symm⟩,⟨rfl,congrArg List.length ht2.symm⟩,.refl _,trivial⟩,Env.below_mono hE (by simp),rfl,rfl⟩
 ·have c3':i=l.length:=by have h3:¬ (i:Int) < (l.length:Int):=(by simpa using c3);omega
  subst c3'
  rw [List.take_length]
  have hok:=detL_ok n l [] g2
  have hk:=kidsD_fit l fun x hx=>⟨belongs_range (hok x hx).1,(hok x hx).2⟩
  have hld:=listD_length l
  have hwk:=wrKidsD l fun x hx=>(hok x hx).2
  have hw:=Wrap_spec n (by omega) (.mk 92 (listD l) []::kidsD l) (by rw [List.length_cons,hk.2.2];omega) ⟨⟨by omega,by omega,by simp,trivial⟩,hk.1⟩ (by rw [sizeL,sizeN,hk.2.1];simp [sizeL];omega) (by
   have h1:=qAf 92 (listD l) [] (kidsD l)
   have h0:(wrL ([]:List Node)).length=0:=rfl
   omega)
  generalize wrapG n (.mk 92 (listD l) []::kidsD l)=w at hw
  obtain ⟨w,we⟩:=w
  simp only at hw ⊢
  have hkn:(encNs (kidsD l)).length≤16:=by rw [qAm,hk.2.2];omega
  show AW Tryz.prog E _ _ _ _ _
  refine qDm (l:=[(0,.d (.int .i64 n)),(7,.ptr 0 0),(8,.d (.sl 3 (encNs (kidsD l))))]) (h':=[.row [.d (.int .i64 92),.d (.sl 1 (encB (listD l))),.d (.sl 3 [])],.dead,.dead]) ⟨.refl _,.refl _,.dat,trivial⟩ ⟨⟨.refl _,.dat,.dat,trivial⟩,trivial,trivial,trivial⟩ ?_
  refine ww ?_
  refine qAd (append_full (es:=encNs [.mk 92 (listD l) []]) (es2:=encNs (kidsD l)) hT rfl rfl rfl (.inl rfl) rfl (by show (1+_)*(56+1)≤_;omega)) rfl ?_
  refine ww ?_
  refine wwc hw ?_
  refine ww ?_
  exact wwr
end Tdoc
namespace Tdoc
open Go Go.Proofs
theorem identifier_spec (p:Int) (hp:2≤p∧p≤6):Spec Tryz.prog 207 [.d (.int .i64 p)] [] (fun r h'=>r=.d (.sl 1 (encB (idB p)))∧h'=[]):=by
 have hp':p=2∨p=3∨p=4∨p=5∨p=6:=by omega
 rcases hp' with rfl | rfl | rfl | rfl | rfl
 all_goals
  refine qAb hT Tryz.func207 rfl rfl rfl rfl ?_;intro E hE
  refine qAo ?_
  refine wwn ?_
  refine qBg (fun i=>bif Nat.beq i 0 then [0] else bif Nat.beq i 1 then [0] else []) (fun i=>bif Nat.beq i 0 then [0] else bif Nat.beq i 1 then [0] else []) mixed (by kernel_rfl) ?_
  refine qAs (os:=[.opq (cbR [4,0,127,0,7,2,2])]) (fun k hk1 hk2=>buildCB_ok hT rfl rfl ((hk2 0 List.mem_cons_self).trans rfl)) rfl ?_
  refine qAs (os:=[.dead]) (fun k hk1 hk2=>markCB_ok hT rfl rfl rfl ((hk2 0 List.mem_cons_self).trans rfl) rfl) rfl ?_
  refine wwg ?_
  refine qCb (arrAddr_ok hT rfl rfl rfl rfl (by decide)) rfl rfl ?_
  refine qCb (arrAddr_ok hT rfl rfl rfl rfl (by decide)) rfl rfl ?_
  refine wwg ?_
  refine qCb (arrAddr_ok hT rfl rfl rfl rfl (by decide)) rfl rfl ?_
  refine qCb (arrAddr_ok hT rfl rfl rfl rfl (by decide)) rfl rfl ?_
  refine wwg ?_
  refine qAs (os:=[]) (fun k hk1 hk2=>qCz hT rfl rfl) rfl ?_
  refine qAs (os:=[]) (fun k hk1 hk2=>append_full hT rfl rfl rfl (.inl rfl) rfl (by decide)) rfl ?_
  refine wwg ?_
  refine ww ?_
  exact wwr
end Tdoc
namespace Tdoc
open Go
theorem digL_pow:∀ (k m n:Nat),n < 256 ^ m→(digL k n).length≤m
 | 0,m,n,h=>by simp [digL]
 | k+1,m,n,h=>by
  rw [digL]
  split
  ·simp
  ·rename_i h0
   match m,h with
   | 0,h=>exact absurd h (by simp;omega)
   | m+1,h =>
    have:=digL_pow k m (n / 256) (by rw [Nat.pow_succ] at h;omega)
    simp;omega
theorem lenB_pow {m n:Nat} (h:n < 256 ^ m):(lenB n).length≤1+m:=by
 unfold lenB
 split
 ·simp
 ·have:=digL_pow 8 m n h
  simp [digs];omega
theorem lenB_one {n:Nat} (h:n < 128):(lenB n).length=1:=by unfold lenB;rw [if_pos h];rfl
theorem tagX_wr {b:List UInt8} {e p:Nat} (h:(tagX b e p).2.1=0):(tagB (tagX b e p).1).length+p≤(tagX b e p).2.2:=by
 have hb:=qCw b p
 unfold tagX at h ⊢
 split at h
 ·exact absurd h (by simp)
 rename_i h1
 rw [if_neg h1]
 split at h
 ·rename_i h2
  rw [if_pos h2]
  split at h
  ·exact absurd h (by simp)
  rename_i h3
  rw [if_neg h3]
  split at h
  ·rename_i h4
   rw [if_pos h4]
   unfold tagB;split <;> simp <;> omega
  ·exact absurd h (by simp)
 ·rename_i h2
  rw [if_neg h2]
  split at h
  ·rename_i h4
   rw [if_pos h4]
   unfold tagB;rw [if_neg (by omega)];simp;omega
  ·exact absurd h (by simp)
theorem lenX_wr {b:List UInt8} {e p:Nat} {op st:Bool} (h:(lenX b e op st p).2.1=0) :
  ((lenX b e op st p).1 = -1∧p+1≤(lenX b e op st p).2.2)∨(0≤(lenX b e op st p).1∧∀ w:Nat,(w:Int)≤(lenX b e op st p).1→(lenB w).length+p≤(lenX b e op st p).2.2):=by
 unfold lenX at h ⊢
 split at h
 ·exact absurd h (by simp)
 rename_i h1
 rw [if_neg h1]
 split at h
 ·rename_i h2
  rw [if_pos h2]
  refine .inr ⟨by simp only;omega,fun w hw=>?_⟩
  simp only at hw ⊢
  rw [lenB_one (by omega)];omega
 rename_i h2
 rw [if_neg h2]
 split at h
 ·exact absurd h (by simp)
 rename_i h3
 rw [if_neg h3]
 split at h
 ·rename_i h4
  rw [if_pos h4]
  exact .inl ⟨rfl,by simp only;omega⟩
 rename_i h4
 rw [if_neg h4]
 split at h
 ·exact absurd h (by simp)
 rename_i h5
 rw [if_neg h5]
 split at h
 ·exact absurd h (by simp)
 rename_i h6
 rw [if_neg h6]
 refine .inr ⟨by simp only;omega,fun w hw=>?_⟩
 simp only at hw ⊢
 have hn:=numB_lt b (byteAt b p % 16) (p+1) 0 0 (by simp)
 rw [Nat.zero_add] at hn
 have:=lenB_pow (m:=byteAt b p % 16) (n:=w) (by omega)
 omega
def WrF (f:Rd) (e:Nat):Prop:=∀ p c,p≤e→c≤256→(f p c).2.1=0→(wrN (f p c).1).length+p≤(f p c).2.2.1
def WrLs (p x:Nat) (out:List Node) (r:List Node×Int×Nat×Nat):Prop:=r.2.1=0→∃ new,r.1=out++new∧(wrL new).length+p+x≤r.2.2.1
theorem WrLs.step {f:Rd} {e p c x:Nat} {out:List Node} {r:List Node×Int×Nat×Nat} (hf:WrF f e) (hp:p≤e) (hc:c≤256) (h0:(f p c).2.1=0) (h:WrLs (f p c).2.2.1 x (out++[(f p c).1]) r):WrLs p x out r:=by
 intro hr
 obtain ⟨new,h1,h2⟩:=h hr
 have g:=hf p c hp hc h0
 exact ⟨(f p c).1::new,by rw [h1];simp,by rw [wrL,List.length_append];omega⟩
theorem loopX_wr {f:Rd} {e:Nat} (hk:RdOk f e) (hf:WrF f e):∀ (m p c:Nat) (out:List Node),p≤e→c≤256→WrLs p 0 out (loopX f e m p c out)
 | 0,p,c,out,_,_=>fun _=>⟨[],by simp [loopX],by simp [loopX,wrL]⟩
 | m+1,p,c,out,hp,hc=>by
  rw [loopX]
  split
  ·split
   ·rename_i h;exact fun h0=>absurd h0 h
   ·rename_i h
    have h':(f p c).2.1=0:=by simpa using h
    have k:=hk p c hp hc
    exact WrLs.step hf hp hc h' (loopX_wr hk hf m _ _ _ k.2.1 (k.2.2.2 h').2)
  ·exact fun _=>⟨[],by simp,by simp [wrL]⟩
theorem kidsX_wr {b:List UInt8} {f:Rd} {e:Nat} (hk:RdOk f e) (hf:WrF f e):∀ (m p c:Nat) (out:List Node),p≤e→c≤256→WrLs p 2 out (kidsX b f e m p c out)
 | 0,p,c,out,_,_=>fun h=>absurd h (by simp [kidsX])
 | m+1,p,c,out,hp,hc=>by
  rw [kidsX]
  split
  ·exact fun h=>absurd h (by simp)
  ·split
   ·exact fun _=>⟨[],by simp,by simp [wrL]⟩
   ·split
    ·rename_i h;exact fun h0=>absurd h0 h
    ·rename_i h
     have h':(f p c).2.1=0:=by simpa using h
     have k:=hk p c hp hc
     exact WrLs.step hf hp hc h' (kidsX_wr hk hf m _ _ _ k.2.1 (k.2.2.2 h').2)
theorem objX_wr (b:List UInt8) (st:Bool) (hb:b.length≤4096):∀ (k e d:Nat),e≤4096→WrF (objX b st k e d) e
 | 0,e,d,_=>fun p c _ _ h=>by simp [objX] at h
 | k+1,e,d,he=>fun p c hp hc h=>by
  have ih:=fun e' (h:e'≤4096)=>objX_wr b st hb k e' (d+1) h
  have ik:=fun e'=>objX_ok b st k e' (d+1)
  rw [objX] at h ⊢
  by_cases ht:(tagX b e p).2.1≠0
  ·rw [if_pos ht] at h;exact absurd h ht
  rw [if_neg ht] at h ⊢
  have t1:=tagX_wr (b:=b) (e:=e) (p:=p) (by simpa using ht)
  have t2:=(tagX_ok b hp).2.1
  have l2:=lenX_ok b (tagCons (tagX b e p).1&&!st) st t2
  unfold objY at h ⊢
  by_cases hl:(lenX b e (tagCons (tagX b e p).1&&!st) st (tagX b e p).2.2).2.1≠0
  ·rw [if_pos hl] at h;exact absurd h hl
  have l1:=lenX_wr (by simpa using hl)
  rw [if_neg hl] at h ⊢
  generalize (tagX b e p).2.2=q at *
  generalize (tagX b e p).1=t at *
  generalize lenX b e (tagCons t&&!st) st q=n at *
  obtain ⟨n,e2,z⟩:=n
  simp only at h l1 l2 ⊢
  split at h
  ·exact absurd h (by simp)
  rename_i g1
  rw [if_neg g1]
  split at h
  ·exact absurd h (by simp)
  rename_i g2
  rw [if_neg g2]
  split at h
  ·exact absurd h (by simp)
  rename_i g3
  rw [if_neg g3]
  split at h
  ·rename_i g4
   rw [if_pos g4]
   have k1:=kidsX_ok (b:=b) (ik e) (e+1) z (c+1) [] l2.2.1 (by omega)
   obtain ⟨new,q1,q2⟩:=kidsX_wr (b:=b) (ik e) (ih e he) (e+1) z (c+1) [] l2.2.1 (by omega) h
   rw [List.nil_append] at q1
   simp only
   rw [q1,wrN]
   have hz:q+1≤z:=by
    rcases l1 with l1 | l1
    ·exact l1.2
    ·exact absurd g4 (by omega)
   split
   ·have:=lenB_pow (m:=2) (n:=(wrL new).length) (by omega)
    simp only [List.length_append];omega
   ·have:=lenB_one (n:=0) (by simp)
    simp only [List.length_append,List.length_nil,this];omega
  ·rename_i g4
   rw [if_neg g4]
   have l1:∀ w:Nat,(w:Int)≤n→(lenB w).length+q≤z:=by
    rcases l1 with l1 | l1
    ·exact absurd l1.1 g4
    ·exact l1.2
   have hle:z+n.toNat≤e:=by omega
   split at h
   ·rename_i g5
    rw [if_pos g5]
    have k1:=loopX_ok (ik (z+n.toNat)) (e+1) z (c+1) [] (by omega) (by omega)
    obtain ⟨new,q1,q2⟩:=loopX_wr (ik (z+n.toNat)) (ih (z+n.toNat) (by omega)) (e+1) z (c+1) [] (by omega) (by omega) h
    rw [List.nil_append] at q1
    simp only
    rw [q1,wrN,if_pos g5]
    have:=l1 (wrL new).length (by omega)
    simp only [List.length_append];omega
   ·rename_i g5
    rw [if_neg g5]
    simp only
    rw [wrN,if_neg g5]
    have hlen:((b.drop z).take n.toNat).length≤n.toNat:=by rw [List.length_take];omega
    have:=l1 ((b.drop z).take n.toNat).length (by omega)
    simp only [List.length_append];omega
theorem parseX_wr {b:List UInt8} {st:Bool} (h:(parseX b st).2=0):(wrL (parseX b st).1).length≤b.length:=by
 unfold parseX at h ⊢
 split at h
 ·exact absurd h (by simp)
 ·rename_i hb
  rw [if_neg hb]
  have hok:=loopX_ok (objX_ok b st 9 b.length 1) (b.length+1) 0 0 [] (by omega) (by omega)
  obtain ⟨new,h1,h2⟩:=loopX_wr (objX_ok b st 9 b.length 1) (objX_wr b st (by omega) 9 b.length 1 (by omega)) (b.length+1) 0 0 [] (by omega) (by omega) h
  rw [List.nil_append] at h1
  simp only
  rw [h1]
  omega
end Tdoc
namespace Tdoc
open Go
mutual
theorem chkN_up (d:Nat):∀ (n:Node),(chkN (d+1) n 0).1=0→(chkN d n 0).1=0
 | .mk t v k,h=>by
  have hi:=chkN_inv h
  have hk:=chkL_up (d+1) k (by rw [chkL_any (d+1+1) k 0 (0+1)];exact hi.2.2.2.2)
  rw [chkN,if_neg (by simp [hi.1]),if_neg ?_,if_neg (by have:=hi.2.2.2.1;omega)]
  ·rw [chkL_any (d+1) k (0+1) 0];exact hk
  ·cases hc:tagCons t
   ·simp [hi.2.1 hc]
   ·simp [hi.2.2.1 hc]
theorem chkL_up (d:Nat):∀ (l:List Node),(chkL (d+1) l 0).1=0→(chkL d l 0).1=0
 | [],_=>rfl
 | a::l,h=>by
  have hi:=chkL_inv h
  rw [chkL,if_pos (chkN_up d a hi.1),chkL_any d l _ 0]
  exact chkL_up d l hi.2
end
theorem openX_enc {b:List UInt8} (h:(openX b).2.2=0):encodeP (openX b).2.1=(wrL (openX b).2.1,0):=by
 have hc:=openX_chk b
 have hx:(wrL (openX b).2.1).length≤4096∧sizeL (openX b).2.1≤256:=by
  unfold openX at h ⊢
  split at h
  ·rename_i h2;exact absurd h h2
  rename_i h2
  rw [if_neg h2]
  have hg:=parseX_good (b:=b) (st:=false) (by omega)
  have hw:=parseX_wr (b:=b) (st:=false) (by omega)
  split
  ·rename_i t v k hk
   rw [hk] at hg hw
   split
   ·simp [wrL,sizeL]
   ·have hi:=chkN_inv (chkL_inv hg.2.1).1
    have h3:=hg.2.2.1
    simp only [wrL,wrN,sizeL,sizeN,List.length_append,List.length_nil] at hw h3 ⊢
    refine ⟨?_,by omega⟩
    cases hc:tagCons t
    ·rw [hi.2.1 hc];simp [wrL]
    ·rw [hc] at hw;simp only [if_true] at hw;omega
  ·simp [wrL,sizeL]
 have h1:=chkL_up 1 _ hc
 unfold encodeP
 rw [if_neg (by rw [h1];simp),if_neg ?_,if_neg (by omega)]
 have:=(qDu 1 (openX b).2.1 0).1
 omega
end Tdoc
namespace Tdoc
open Go Go.Proofs
theorem OpenInf_walk (b:List UInt8) (hb:b.length≤9223372036854775807) (hD:∀ v:List UInt8,v.length≤4096→Spec Tryz.prog 95 [.d (.sl 1 (encB v))] [] (fun r h'=>r=.tup [.d (.sl 5 (encFs (decI v).1)),.d (.int .i64 (decI v).2)]∧h'=[])) :
  Spec Tryz.prog 41 [.d (.sl 1 (encB b))] [] (fun r h'=>r=.tup [.d (.sl 5 (encFs (infoO b).1)),.d (.int .i64 (infoO b).2)]∧h'=[]):=by
 have ho:=open_spec b 14 (by omega)
 have hz:=openZ_eq b 14
 have hch:=openX_chk b
 have hwg:=openX_wg b
 have hen:=openX_enc (b:=b)
 unfold infoO
 rw [hz.1,hz.2]
 by_cases h1:(openY b 14).2=0
 case neg =>
  rw [if_pos h1]
  generalize openY b 14=q at ho h1
  obtain ⟨l,e⟩:=q
  simp only at ho h1 ⊢
  refine qAb hT Tryz.func41 rfl rfl rfl rfl ?_;intro E hE
  refine ww ?_
  refine wwc ho ?_
  refine ww ?_
  refine qAa rfl (fun c1=>?_) (fun c1=>?_)
  ·refine ww ?_
   exact wwr
  ·exact absurd (by simpa using c1) h1
 have hk:=openZ_ok (b:=b) (lo:=14) (hi:=14) (by rw [hz.2];exact h1)
 rw [hz.1] at hk
 obtain ⟨k1,k2,k3,k4,k5⟩:=hk
 rw [if_neg (by omega)]
 have hen:=hen k4
 rw [← k3] at hen hch hwg
 have hf:=chkL_fit 2 _ hch (by omega)
 have hl:=len_wgt (openY b 14).1
 have hw4:(wrL (openY b 14).1).length≤4096:=by have:=encP_len (openY b 14).1;rw [hen] at this;exact this
 have hEc:=Encode_spec (openY b 14).1 (by omega) hf.1 (by omega) (by omega)
 have hD:=hD (encodeP (openY b 14).1).1 (encP_len _)
 rw [h1] at ho
 have he2:(encodeP (openY b 14).1).2=0:=by rw [hen]
 rw [he2] at hEc
 generalize (encodeP (openY b 14).1).1=eb at hEc hD
 generalize (openY b 14).1=l at ho hEc
 generalize decI eb=w at hD
 obtain ⟨w,we⟩:=w
 simp only at hD ⊢
 refine qAb hT Tryz.func41 rfl rfl rfl rfl ?_;intro E hE
 refine ww ?_
 refine wwc ho ?_
 refine ww ?_
 refine qAa rfl (fun c1=>?_) (fun c1=>?_)
 ·exact absurd c1 (by simp)
 refine ww ?_
 refine wwc hEc ?_
 refine ww ?_
 refine qAa rfl (fun c2=>?_) (fun c2=>?_)
 ·exact absurd c2 (by simp)
 refine ww ?_
 refine wwc hD ?_
 refine ww ?_
 exact wwr
end Tdoc
namespace Tdoc
open Go Go.Proofs
theorem known_spec (p:Int):Spec Tryz.prog 250 [.d (.int .i64 p)] [] (fun r h'=>r=.d (.bool (decide (p≥2)&&decide (p≤6)))∧h'=[]):=by
 refine qAb hT Tryz.func250 rfl rfl rfl rfl ?_;intro E hE
 refine ww ?_
 exact wwr
theorem mapped_spec (p:Int):Spec Tryz.prog 209 [.d (.int .i64 p)] [] (fun r h'=>r=.d (.bool (p == 2||p == 3))∧h'=[]):=by
 refine qAb hT Tryz.func209 rfl rfl rfl rfl ?_;intro E hE
 refine ww ?_
 exact wwr
theorem most_spec (b:Bool) (n:Int):Spec Tryz.prog 251 [.d (.bool b),.d (.int .i64 n)] [] (fun r h'=>r=.d (.int .i64 (if b=true then n else 0))∧h'=[]):=by
 refine qAb hT Tryz.func251 rfl rfl rfl rfl ?_;intro E hE
 refine ww ?_
 refine qAa rfl (fun c1=>?_) (fun c1=>?_)
 ·rw [if_pos c1]
  refine ww ?_
  exact wwr
 ·rw [if_neg (by rw [c1];simp)]
  refine ww ?_
  exact wwr
theorem checkI_spec (x:Inf):Spec Tryz.prog 204 [.agg (fCells x)] [] (fun r h'=>r=.d (.int .i64 (infE x))∧h'=[]):=by
 obtain ⟨p,v,a,k,d⟩:=x
 have hK:=known_spec p
 have hM:=mapped_spec p
 have hm1:=most_spec (p == 2||p == 3) 31
 have hm2:=most_spec (p == 4) 255
 have hE2:=Element_spec k
 have e1:(if (p == 2||p == 3)=true then (31:Int) else 0)=parI p:=by unfold parI;simp
 have e2:(if (p == 4)=true then (255:Int) else 0)=kidI p:=by unfold kidI;simp
 rw [e1] at hm1
 rw [e2] at hm2
 unfold infE fCells
 simp only
 generalize elemG k=el at hE2
 generalize parI p=pm at hm1
 generalize kidI p=km at hm2
 refine qAb hT Tryz.func204 rfl rfl rfl rfl ?_;intro E hE
 refine qAo ?_
 refine wwe ?_
 refine qAu (qAn ?_)
 refine qAd (qCg (i0:=0) rfl rfl rfl) rfl ?_
 refine ww ?_
 refine wwc hK ?_
 refine ww ?_
 refine qAa rfl (fun c1=>?_) (fun c1=>?_)
 ·have c1':p < 2∨p > 6:=by simp at c1;omega
  rw [if_pos c1']
  refine ww ?_
  exact wwr
 have c1':¬ (p < 2∨p > 6):=by simp at c1;omega
 rw [if_neg c1']
 refine ww ?_
 refine qAa rfl (fun c2=>?_) (fun c2=>?_)
 ·have c2':v < 1∨v > 255∨a < 0∨a > pm∨d < 0∨d > km:=by simp only [Bool.or_eq_true,decide_eq_true_eq] at c2;omega
  rw [if_pos c2']
  refine ww ?_
  exact wwr
 simp only [Bool.or_eq_false_iff,decide_eq_false_iff_not] at c2
 refine ww ?_
 refine wwgc hM ?_
 refine ww ?_
 refine wwgc hm1 ?_
 refine ww ?_
 refine qAa rfl (fun c3=>?_) (fun c3=>?_)
 ·have c3':v < 1∨v > 255∨a < 0∨a > pm∨d < 0∨d > km:=by simp only [Bool.or_eq_true,decide_eq_true_eq] at c3;omega
  rw [if_pos c3']
  refine ww ?_
  exact wwr
 simp only [Bool.or_eq_false_iff,decide_eq_false_iff_not] at c3
 refine ww ?_
 refine wwgc hm2 ?_
 refine ww ?_
 refine qAa rfl (fun c4=>?_) (fun c4=>?_)
 ·have c4':v < 1∨v > 255∨a < 0∨a > pm∨d < 0∨d > km:=by simp only [Bool.or_eq_true,decide_eq_true_eq] at c4;omega
  rw [if_pos c4']
  refine ww ?_
  exact wwr
 simp only [Bool.or_eq_false_iff,decide_eq_false_iff_not] at c4
 rw [if_neg (by omega)]
 refine ww ?_
 refine wwgc hE2 ?_
 refine ww ?_
 have hc:((p == 4&&!el)||(!(p == 4)&&k != 0))=decide ((p=4∧el=false)∨(p≠4∧k≠0)):=by
  by_cases h4:p=4 <;> cases el <;> by_cases hk:k=0 <;> simp [h4,hk]
 refine qAa rfl (fun c5=>?_) (fun c5=>?_)
 ·have c5':(p=4∧el=false)∨(p≠4∧k≠0):=by rw [hc] at c5;simpa using c5
  rw [if_pos c5']
  refine ww ?_
  exact wwr
 have c5':¬ ((p=4∧el=false)∨(p≠4∧k≠0)):=by rw [hc] at c5;exact of_decide_eq_false c5
 rw [if_neg c5']
 refine wwe ?_
 refine ww ?_
 exact wwr
end Tdoc
namespace Tdoc
open Go Go.Proofs
def cmpI (a b:Int):Int:=if a < b then -1 else if a > b then 1 else 0
def orI (a b:Int):Int:=if a≠0 then a else b
theorem orI_infO (p x:Inf):decide (orI (cmpI p.proto x.proto) (cmpI p.kid x.kid)≥0)=infO p x:=by
 unfold orI cmpI infO
 rw [Bool.eq_iff_iff]
 simp only [decide_eq_true_eq]
 split <;> split <;> (try split) <;> (try split) <;> (try split) <;> omega
theorem isNaN_spec (a:Int):Spec Tryz.prog 252 [.d (.int .i64 a)] [] (fun r h'=>r=.d (.bool false)∧h'=[]):=by
 have h:(a != a)=false:=by simp
 refine qAb hT Tryz.func252 rfl rfl rfl rfl ?_;intro E hE
 refine ww ?_
 rw [h]
 exact wwr
theorem Compare_spec (a b:Int):Spec Tryz.prog 206 [.d (.int .i64 a),.d (.int .i64 b)] [] (fun r h'=>r=.d (.int .i64 (cmpI a b))∧h'=[]):=by
 have h1:=isNaN_spec a
 have h2:=isNaN_spec b
 unfold cmpI
 refine qAb hT Tryz.func206 rfl rfl rfl rfl ?_;intro E hE
 refine ww ?_
 refine wwc h1 ?_
 refine ww ?_
 refine wwc h2 ?_
 refine ww ?_
 refine qAa rfl (fun c1=>?_) (fun c1=>?_)
 ·exact absurd c1 (by simp)
 refine ww ?_
 refine qAa rfl (fun c2=>?_) (fun c2=>?_)
 ·exact absurd c2 (by simp)
 refine ww ?_
 refine qAa rfl (fun c3=>?_) (fun c3=>?_)
 ·rw [if_pos (by simpa using c3)]
  refine ww ?_
  exact wwr
 rw [if_neg (by simpa using c3)]
 refine ww ?_
 refine qAa rfl (fun c4=>?_) (fun c4=>?_)
 ·rw [if_pos (by simpa using c4)]
  refine ww ?_
  exact wwr
 rw [if_neg (by simpa using c4)]
 refine ww ?_
 exact wwr
theorem Or_spec (a b:Int):Spec Tryz.prog 205 [.d (.sl 1 (encI [a,b]))] [] (fun r h'=>r=.d (.int .i64 (orI a b))∧h'=[]):=by
 unfold orI
 generalize hfin:(if a≠0 then a else b)=fin
 have hlen:(encI [a,b]).length=2:=rfl
 refine qAb hT Tryz.func205 rfl rfl rfl rfl ?_;intro E hE
 refine ww ?_
 refine qAq (ι:=Nat) (fun i=>[(3,.d (.int .i64 0)),(6,.d (.sl 1 (encI [a,b]))),(7,.d (.int .i64 ((encI [a,b]).length:Int))),(8,.d (.int .i64 (i:Int)))]) (fun _=>[]) (fun i=>i≤2∧(1≤i→a=0)∧(2≤i→b=0)) (fun i=>2-i) 0 (by omega) ⟨.refl _,.refl _,.refl _,.refl _,trivial⟩ (HLe.refl _) ?_
 rintro i ⟨hi,ha,hb⟩
 have hwr:IntKind.i64.wrap ((i:Int)+1)=((i+1:Nat):Int):=by rw [qAe (by omega)];omega
 refine ww ?_
 refine qAa rfl (fun c1=>?_) (fun c1=>?_)
 ·have hlt:i < 2:=by rw [hlen] at c1;simp at c1;omega
  have hel:=encI_at (l:=[a,b]) (i:=i) hlt
  have hv:i=0∧([a,b]:List Int)[i]=a∨i=1∧([a,b]:List Int)[i]=b:=by
   match i,hlt with
   | 0,_=>exact .inl ⟨rfl,rfl⟩
   | 1,_=>exact .inr ⟨rfl,rfl⟩
  generalize ([a,b]:List Int)[i]=c at hel hv
  refine ww ?_
  refine wwi hel ?_
  refine ww ?_
  refine qAa rfl (fun c2=>?_) (fun c2=>?_)
  ·have hc:c=fin:=by
    have:c≠0:=by simpa using c2
    rw [← hfin]
    rcases hv with ⟨h0,h1⟩ | ⟨h0,h1⟩
    ·rw [if_pos (by omega)];exact h1
    ·rw [if_neg (by have:=ha (by omega);omega)];exact h1
   subst hc
   refine ww ?_
   exact wwr
  have hc:c=0:=by simpa using c2
  refine ww ?_
  exact ⟨i+1,⟨by omega,by omega,by omega⟩,by omega,⟨.refl _,.refl _,.refl _,.int hwr,trivial⟩,HLe.refl _⟩
 ·have hge:i=2:=by rw [hlen] at c1;simp at c1;omega
  have h0:fin=0:=by rw [← hfin];have:=ha (by omega);have:=hb (by omega);split <;> omega
  subst h0
  refine ww ?_
  exact wwr
end Tdoc
namespace Tdoc
open Go Go.Proofs
def prevO (l:List Inf) (i:Nat):Option Inf:=if i=0 then none else l[i-1]?
theorem ValidI_spec (l:List Inf) (hl:l.length≤1000000):Spec Tryz.prog 137 [.d (.sl 5 (encFs l))] [] (fun r h'=>r=.d (.int .i64 (validI l))∧h'=[]):=by
 have hll:=qDt l
 unfold validI
 by_cases h1:l.length > 16
 case pos =>
  rw [if_pos h1]
  refine qAb hT Tryz.func137 rfl rfl rfl rfl ?_;intro E hE
  refine ww ?_
  refine qAa rfl (fun c1=>?_) (fun c1=>?_)
  ·refine ww ?_
   exact wwr
  ·exfalso
   rw [hll] at c1
   simp at c1
   omega
 rw [if_neg h1]
 generalize hfin:infL none l=fin
 refine qAb hT Tryz.func137 rfl rfl rfl rfl ?_;intro E hE
 refine ww ?_
 refine qAa rfl (fun c1=>?_) (fun c1=>?_)
 ·exfalso
  rw [hll] at c1
  simp at c1
  omega
 refine ww ?_
 refine qBu (ι:=Nat) (fun i=>[(0,.d (.sl 5 (encFs l))),(9,.d (.sl 5 (encFs l))),(10,.d (.int .i64 ((encFs l).length:Int))),(11,.d (.int .i64 (i:Int)))]) (fun _=>[])
  (fun i=>i≤l.length∧infL (prevO l i) (l.drop i)=fin) (fun i=>l.length-i) 0 ⟨by omega,by simpa [prevO] using hfin⟩ ⟨.refl _,.refl _,.refl _,.refl _,trivial⟩ (HLe.refl _) ?_
 rintro i ⟨hi,hg⟩
 have hwr:IntKind.i64.wrap ((i:Int)+1)=((i+1:Nat):Int):=by rw [qAe (by omega)];simp
 refine ww ?_
 refine qAa rfl (fun c2=>?_) (fun c2=>?_)
 ·have c2':i < l.length:=by rw [hll] at c2;simpa using c2
  have hel:=encFs_at c2'
  have hdr:l.drop i=l[i]::l.drop (i+1):=List.drop_eq_getElem_cons c2'
  have hpv:prevO l (i+1)=some l[i]:=by unfold prevO;simp [c2']
  rw [hdr,infL_cons] at hg
  have hC:=checkI_spec l[i]
  generalize l[i]=x at hel hC hpv hg
  generalize he:infE x=ve at hC hg
  obtain ⟨x1,x2,x3,x4,x5⟩:=x
  unfold fCells at hC
  unfold encF at hel
  simp only at hC hel
  by_cases h0:i=0
  ·subst h0
   have hn:decide (((0:Nat):Int) > 0)=false:=rfl
   refine ww ?_
   refine wwi hel ?_
   refine ww ?_
   refine wwc hC ?_
   refine ww ?_
   refine qAa rfl (fun c3=>?_) (fun c3=>?_)
   ·rw [if_pos (by simpa using c3)] at hg
    subst hg
    refine ww ?_
    exact wwr
   rw [if_neg (by simpa using c3)] at hg
   refine wwk hn ?_
   refine qAa rfl (fun c4=>?_) (fun c4=>?_)
   ·exact absurd c4 (by simp)
   simp only [prevO,if_true] at hg
   rw [if_neg (by simp)] at hg
   refine ww ?_
   exact ⟨0+1,[_],⟨c2',by rw [hpv];exact hg⟩,by omega,⟨.refl _,.refl _,.refl _,.int hwr,trivial⟩,HLe.refl _,Env.below_mono hE (by simp),rfl,rfl⟩
  ·have hlt:i-1 < l.length:=by omega
   have help:(encFs l)[(IntKind.i64.wrap ((i:Int)-1)).toNat]?=some (encF l[i-1]):=by
    rw [qAe (by omega),show (i:Int)-1=((i-1:Nat):Int) by omega];exact encFs_at hlt
   have hp:prevO l i=some l[i-1]:=by unfold prevO;rw [if_neg h0];simp [hlt]
   have hn:decide ((i:Int) > 0)=true:=by simp;omega
   have hwi:IntKind.i64.wrap ((i:Int)-1)=(i:Int)-1:=qAe (by omega)
   rw [hp] at hg
   have hg:(if ve≠0 then ve else if infO l[i-1] ⟨x1,x2,x3,x4,x5⟩=true then 17 else infL (some ⟨x1,x2,x3,x4,x5⟩) (l.drop (i+1)))=fin:=hg
   have hio:=orI_infO l[i-1] ⟨x1,x2,x3,x4,x5⟩
   generalize infO l[i-1] ⟨x1,x2,x3,x4,x5⟩=io at hg hio
   generalize l[i-1]=p at help hio
   obtain ⟨p1,p2,p3,p4,p5⟩:=p
   simp only at hio
   unfold encF at help
   simp only at help
   have hc1:=Compare_spec p1 x1
   have hc2:=Compare_spec p5 x5
   have hor:=Or_spec (cmpI p1 x1) (cmpI p5 x5)
   generalize orI (cmpI p1 x1) (cmpI p5 x5)=ov at hor hio
   subst hio
   refine ww ?_
   refine wwi hel ?_
   refine ww ?_
   refine wwc hC ?_
   refine ww ?_
   refine qAa rfl (fun c3=>?_) (fun c3=>?_)
   ·rw [if_pos (by simpa using c3)] at hg
    subst hg
    refine ww ?_
    exact wwr
   rw [if_neg (by simpa using c3)] at hg
   refine ww ?_
   refine wwgi help ?_
   refine ww ?_
   refine wwgc hc1 ?_
   refine ww ?_
   refine wwgi help ?_
   refine ww ?_
   refine wwgc hc2 ?_
   refine ww ?_
   refine AWd_gop rfl rfl rfl rfl (fun hg=>⟨(sg (C:=True) hg).1,callS0L (args:=[.sl 1 [[Dat.int .i64 (cmpI p1 x1)],[Dat.int .i64 (cmpI p5 x5)]] .full]) rfl rfl hor rfl (by exact ⟨AV.le.dat,trivial⟩) rfl rfl⟩) ?_
   refine ww ?_
   refine qAa rfl (fun c4=>?_) (fun c4=>?_)
   ·have hov:decide (ov≥0)=true:=by rw [hn] at c4;simpa using c4
    rw [if_pos hov] at hg
    subst hg
    refine ww ?_
    exact wwr
   have hov:¬ decide (ov≥0)=true:=by rw [hn] at c4;simpa using c4
   rw [if_neg hov] at hg
   refine ww ?_
   exact ⟨i+1,[_],⟨c2',by rw [hpv];exact hg⟩,by omega,⟨.refl _,.refl _,.refl _,.int hwr,trivial⟩,HLe.refl _,Env.below_mono hE (by simp),rfl,rfl⟩
 ·have c2':i=l.length:=by rw [hll] at c2;simp at c2;omega
  subst c2'
  rw [List.drop_length,infL_nil] at hg
  subst hg
  refine ww ?_
  exact wwr
end Tdoc
namespace Tdoc
open Go Go.Proofs
theorem numberP_spec (n:Int):Spec Tryz.prog 208 [.d (.int .i64 n)] [] (fun r h'=>r=.agg ((encN (.mk 2 [bOf n] [])).map .d)∧h'=[]):=by
 have e:encN (.mk 2 [bOf n] [])=[Dat.int .i64 2,.sl 1 [[.int .u8 (IntKind.u8.wrap n)]],.sl 3 []]:=by rw [bOf_wrap];rfl
 rw [e]
 refine qAb hT Tryz.func208 rfl rfl rfl rfl ?_;intro E hE
 refine ww ?_
 exact qAg (r:=.agg [.d (.int .i64 2),.d (.sl 1 [[.int .u8 (IntKind.u8.wrap n)]]),.d (.sl 3 [])]) rfl (AV.le.agg ⟨.refl _,AV.le.dat,AV.le.dat,trivial⟩) rfl rfl rfl rfl ⟨rfl,rfl⟩
theorem objIP_spec (x:Inf) (hv:infE x=0):Spec Tryz.prog 138 [.agg (fCells x)] [] (fun r h'=>r=nAV (objI x)∧h'=[]):=by
 have hE0:(2≤x.proto∧x.proto≤6)∧(x.proto=4→elemG x.key=true):=by
  unfold infE at hv
  split at hv
  ·exact absurd hv (by decide)
  split at hv
  ·exact absurd hv (by decide)
  split at hv
  ·exact absurd hv (by decide)
  rename_i h1 h2 h3
  refine ⟨by omega,fun h=>?_⟩
  cases hh:elemG x.key with
  | true=>rfl
  | false=>exact absurd (.inl ⟨h,hh⟩) h3
 obtain ⟨p,v,q,k,d⟩:=x
 simp only at hE0
 have hid:=identifier_spec p hE0.1
 have hnv:=numberP_spec v
 have hnq:=numberP_spec q
 have hnd:=numberP_spec d
 have hm:=mapped_spec p
 have hge:=GEncode_spec k
 unfold objI fCells
 simp only
 unfold nAV
 have e0:∀ r:List Node,encN (.mk 48 [] ([.mk 6 (idB p) [],.mk 2 [bOf v] []]++r))=[Dat.int .i64 48,.sl 1 [],.sl 3 ([[Dat.int .i64 6,.sl 1 (encB (idB p)),.sl 3 []],encN (.mk 2 [bOf v] [])]++encNs r)]:=fun r=>rfl
 rw [e0]
 have ev:encN (.mk 2 [bOf v] [])=[Dat.int .i64 2,.sl 1 (encB [bOf v]),.sl 3 []]:=rfl
 have eq:encN (.mk 2 [bOf q] [])=[Dat.int .i64 2,.sl 1 (encB [bOf q]),.sl 3 []]:=rfl
 have ed:encN (.mk 2 [bOf d] [])=[Dat.int .i64 2,.sl 1 (encB [bOf d]),.sl 3 []]:=rfl
 rw [ev] at hnv ⊢
 rw [eq] at hnq
 rw [ed] at hnd
 refine qAb hT Tryz.func138 rfl rfl rfl rfl ?_;intro E hE
 refine qAo ?_
 refine wwn ?_
 refine qBg (fun i=>bif Nat.beq i 1 then [1] else bif Nat.beq i 5 then [1] else bif Nat.beq i 9 then [0] else bif Nat.beq i 10 then [0] else []) (fun i=>bif Nat.beq i 9 then [0] else bif Nat.beq i 10 then [0] else []) mixed (by kernel_rfl) ?_
 refine wwg ?_
 refine wwdc hid ?_
 refine wwg ?_
 refine wwdc hnv ?_
 refine wwg ?_
 refine qAs (os:=[]) (fun k hk1 hk2=>qCz hT rfl rfl) rfl ?_
 refine wwg ?_
 refine qAs (v:=.ptr 0 0) (os:=[.row [.d (.int .i64 0),.sl 1 [] .full,.sl 3 [] .full]]) (fun kk hk1 hk2=>allocAt_ok (i0:=0) (i:=⟨.struct [(0,1,false),(1,1,false),(2,1,false)],3,56,[.d (.int .i64 0),.sl 1 [] .full,.sl 3 [] .full]⟩) hT rfl rfl ((hk2 0 List.mem_cons_self).trans rfl)) rfl ?_
 refine wwg ?_
 refine ww ?_
 refine wwc hm ?_
 refine ww ?_
 show AW Tryz.prog E _ _ _ _ _
 generalize idB p=ib
 refine qDm (l:=[(1,.ptr 1 0),(2,.ptr 2 0),(3,.ptr 0 0),(15,.d (.bool (p == 2||p == 3)))]) (h':=[.row [.d (.int .i64 48),.sl 1 [] .full,.sl 3 [[.int .i64 6,.sl 1 (encB ib),.sl 3 []],[.int .i64 2,.sl 1 (encB [bOf v]),.sl 3 []]] .full],.row [.d (.int .i64 p),.d (.int .i64 v),.d (.int .i64 q),.d (.int .i64 k),.d (.int .i64 d)],.row [.d (.int .i64 0),.sl 1 [] .full,.sl 3 [] .full]]) ⟨.refl _,.refl _,.refl _,.refl _,trivial⟩ (HLe.refl _) ?_
 refine qAo (qDn 0 2 3 3 rfl rfl rfl ?_)
 refine qAa rfl (fun c1=>?_) (fun c1=>?_)
 ·have c1':p=2∨p=3:=by simpa using c1
  rw [if_pos c1']
  show AW Tryz.prog E _ _ _ _ _
  refine qBg (fun i=>bif Nat.beq i 1 then [0] else bif Nat.beq i 3 then [1] else bif Nat.beq i 6 then [3] else bif Nat.beq i 8 then [0] else []) (fun i=>bif Nat.beq i 6 then [3] else bif Nat.beq i 8 then [0] else []) mixed (by kernel_rfl) ?_
  refine wwg ?_
  refine wwdc hnq ?_
  refine wwg ?_
  refine qAs (os:=[]) (fun k hk1 hk2=>qCz hT rfl rfl) rfl ?_
  refine qAs (v:=.sl 3 [[.int .i64 6,.sl 1 (encB ib),.sl 3 []],[.int .i64 2,.sl 1 (encB [bOf v]),.sl 3 []],[.int .i64 2,.sl 1 (encB [bOf q]),.sl 3 []]] (.right 3)) (os:=[.right 3 3]) (fun k hk1 hk2=>qAk (i:=3) hT rfl rfl rfl rfl ((hk2 3 List.mem_cons_self).trans rfl) rfl (by show (2+1)*(56+1)≤140737488355328;omega)) rfl ?_
  refine wwg ?_
  show AW Tryz.prog E _ _ _ _ _
  refine qDm (l:=[(1,.ptr 1 0),(2,.ptr 2 0),(3,.ptr 0 0)]) (h':=[.row [.d (.int .i64 48),.d (.sl 1 []),.d (.sl 3 [[.int .i64 6,.sl 1 (encB ib),.sl 3 []],[.int .i64 2,.sl 1 (encB [bOf v]),.sl 3 []],[.int .i64 2,.sl 1 (encB [bOf q]),.sl 3 []]])],.dead,.row [.d (.int .i64 0),.sl 1 [] .full,.sl 3 [] .full],.dead]) ⟨.refl _,.refl _,.refl _,trivial⟩ ⟨⟨.refl _,.dat,.dat,trivial⟩,trivial,.refl _,trivial,trivial⟩ ?_
  refine ww ?_
  exact wwr
 have c1':¬ (p=2∨p=3):=by simpa using c1
 rw [if_neg c1']
 refine ww ?_
 refine qAa rfl (fun c2=>?_) (fun c2=>?_)
 ·have c2':p=4:=by simpa using c2
  rw [if_pos c2']
  have hel:=hE0.2 c2'
  rw [hel,if_pos rfl,if_pos rfl] at hge
  refine ww ?_
  refine wwc hge ?_
  refine wwn ?_
  show AW Tryz.prog E _ _ _ _ _
  refine qBg (fun i=>bif Nat.beq i 1 then [0] else bif Nat.beq i 5 then [1] else bif Nat.beq i 8 then [3] else bif Nat.beq i 10 then [0] else []) (fun i=>bif Nat.beq i 8 then [3] else bif Nat.beq i 10 then [0] else []) mixed (by kernel_rfl) ?_
  refine wwg ?_
  refine wwdc hnd ?_
  refine wwg ?_
  refine qAs (os:=[]) (fun k hk1 hk2=>qCz hT rfl rfl) rfl ?_
  refine qAs (v:=.sl 3 [[.int .i64 6,.sl 1 (encB ib),.sl 3 []],[.int .i64 2,.sl 1 (encB [bOf v]),.sl 3 []],[.int .i64 4,.sl 1 (encB (octB 4 k.toNat)),.sl 3 []],[.int .i64 2,.sl 1 (encB [bOf d]),.sl 3 []]] (.right 3)) (os:=[.right 3 4]) (fun kk hk1 hk2=>qAk (i:=3) hT rfl rfl rfl rfl ((hk2 3 List.mem_cons_self).trans rfl) rfl (by show (2+2)*(56+1)≤140737488355328;omega)) rfl ?_
  refine wwg ?_
  show AW Tryz.prog E _ _ _ _ _
  refine qDm (l:=[(1,.ptr 1 0),(2,.ptr 2 0),(3,.ptr 0 0)]) (h':=[.row [.d (.int .i64 48),.d (.sl 1 []),.d (.sl 3 [[.int .i64 6,.sl 1 (encB ib),.sl 3 []],[.int .i64 2,.sl 1 (encB [bOf v]),.sl 3 []],[.int .i64 4,.sl 1 (encB (octB 4 k.toNat)),.sl 3 []],[.int .i64 2,.sl 1 (encB [bOf d]),.sl 3 []]])],.dead,.row [.d (.int .i64 0),.sl 1 [] .full,.sl 3 [] .full],.dead]) ⟨.refl _,.refl _,.refl _,trivial⟩ ⟨⟨.refl _,.dat,.dat,trivial⟩,trivial,.refl _,trivial,trivial⟩ ?_
  refine ww ?_
  exact wwr
 ·have c2':¬ p=4:=by simpa using c2
  rw [if_neg c2']
  show AW Tryz.prog E _ _ _ _ _
  refine qDm (l:=[(1,.ptr 1 0),(2,.ptr 2 0),(3,.ptr 0 0)]) (h':=[.row [.d (.int .i64 48),.d (.sl 1 []),.d (.sl 3 [[.int .i64 6,.sl 1 (encB ib),.sl 3 []],[.int .i64 2,.sl 1 (encB [bOf v]),.sl 3 []]])],.dead,.row [.d (.int .i64 0),.sl 1 [] .full,.sl 3 [] .full],.dead]) ⟨.refl _,.refl _,.refl _,trivial⟩ ⟨⟨.refl _,.dat,.dat,trivial⟩,trivial,.refl _,trivial,trivial⟩ ?_
  refine ww ?_
  exact wwr
end Tdoc
namespace Tdoc
open Go Go.Proofs
def encIF (l:List Inf):List UInt8×Int:=if validI l≠0 then ([],validI l) else encodeP [setI l]
theorem infL_get:∀ {l:List Inf} {p:Option Inf},infL p l=0→∀ {i:Nat} (hi:i < l.length),infE l[i]=0
 | [],_,_,_,hi=>by simp at hi
 | x::l,p,h,i,hi=>by
  rw [infL_cons] at h
  have hv:infE x=0:=by
   by_cases hv:infE x=0
   ·exact hv
   ·rw [if_pos hv] at h;exact h
  rw [if_neg (fun hh=>hh hv)] at h
  have hl:infL (some x) l=0:=by
   split at h <;> split at h
   all_goals first | exact h | exact absurd h (by decide)
  cases i with
  | zero=>exact hv
  | succ i=>exact infL_get hl (by simpa using hi)
theorem validI_ok {l:List Inf} (h:validI l=0):l.length≤16∧infL none l=0:=by
 unfold validI at h
 split at h
 ·omega
 ·exact ⟨by omega,h⟩
theorem idB_len (p:Int):(idB p).length=9:=by
 unfold idB
 split
 ·rfl
 split
 ·rfl
 split
 ·rfl
 split <;> rfl
theorem wrObjI (x:Inf) (r:List Node):(wrL (objI x::r)).length≤200+(wrL r).length:=by
 unfold objI
 have h0:(wrL ([]:List Node)).length=0:=rfl
 have hid:=idB_len x.proto
 split
 ·have h1:=qAf 48 [] ([.mk 6 (idB x.proto) [],.mk 2 [bOf x.ver] []]++[.mk 2 [bOf x.par] []]) r
  have h2:=qAf 6 (idB x.proto) [] [.mk 2 [bOf x.ver] [],.mk 2 [bOf x.par] []]
  have h3:=qAf 2 [bOf x.ver] [] [.mk 2 [bOf x.par] []]
  have h4:=qAf 2 [bOf x.par] [] []
  simp only [List.cons_append,List.nil_append,List.length_cons,List.length_nil] at *
  omega
 split
 ·have h1:=qAf 48 [] ([.mk 6 (idB x.proto) [],.mk 2 [bOf x.ver] []]++[.mk 4 (octB 4 x.key.toNat) [],.mk 2 [bOf x.kid] []]) r
  have h2:=qAf 6 (idB x.proto) [] [.mk 2 [bOf x.ver] [],.mk 4 (octB 4 x.key.toNat) [],.mk 2 [bOf x.kid] []]
  have h3:=qAf 2 [bOf x.ver] [] [.mk 4 (octB 4 x.key.toNat) [],.mk 2 [bOf x.kid] []]
  have h4:=qAf 4 (octB 4 x.key.toNat) [] [.mk 2 [bOf x.kid] []]
  have h5:=qAf 2 [bOf x.kid] [] []
  simp only [List.cons_append,List.nil_append,List.length_cons,List.length_nil,qBv] at *
  omega
 ·have h1:=qAf 48 [] ([.mk 6 (idB x.proto) [],.mk 2 [bOf x.ver] []]++[]) r
  have h2:=qAf 6 (idB x.proto) [] [.mk 2 [bOf x.ver] []]
  have h3:=qAf 2 [bOf x.ver] [] []
  simp only [List.cons_append,List.nil_append,List.length_cons,List.length_nil] at *
  omega
theorem wrObjIs:∀ (l:List Inf),(wrL (l.map objI)).length≤l.length*200
 | []=>by show (0:Nat)≤_;omega
 | x::l=>by
  have h1:=wrObjI x (l.map objI)
  have h2:=wrObjIs l
  simp only [List.map_cons,List.length_cons]
  omega
theorem wrSetI {l:List Inf} (h:l.length≤16):(wrL [setI l]).length≤10000:=by
 have h1:=wrObjIs l
 have h2:=qAf 49 [] (l.map objI) []
 have h0:(wrL ([]:List Node)).length=0:=rfl
 unfold setI
 simp only [List.length_nil] at *
 omega
theorem encIP_spec (l:List Inf) (hl:l.length≤1000000):Spec Tryz.prog 76 [.d (.sl 5 (encFs l))] [] (fun r h'=>r=.tup [.d (.sl 1 (encB (encIF l).1)),.d (.int .i64 (encIF l).2)]∧h'=[]):=by
 have hll:=qDt l
 have hc:=ValidI_spec l hl
 have hcv:=@validI_ok l
 unfold encIF
 generalize validI l=e at hc hcv
 refine qAb hT Tryz.func76 rfl rfl rfl rfl ?_;intro E hE
 refine ww ?_
 refine wwc hc ?_
 refine ww ?_
 refine qAa rfl (fun c1=>?_) (fun c1=>?_)
 ·have c1':e≠0:=by simpa using c1
  rw [if_pos c1']
  refine ww ?_
  exact wwr
 have c1':e=0:=by simpa using c1
 obtain ⟨g1,g3⟩:=hcv c1'
 subst c1'
 rw [if_neg (by simp)]
 obtain ⟨f1,f2⟩:=setI_fit g1
 have henc:=Encode_spec [setI l] (by simp) f1 (by omega) (by have:=wrSetI g1;omega)
 generalize encodeP [setI l]=en at henc
 obtain ⟨b,f⟩:=en
 simp only at henc ⊢
 refine ww ?_
 refine qAo (qDn 0 2 1 3 rfl rfl rfl ?_)
 refine qBu (ι:=Nat) (fun i=>[(14,.d (.sl 5 (encFs l))),(5,.ptr 0 0),(15,.d (.int .i64 (l.length:Int))),(16,.d (.int .i64 (i:Int)))])
  (fun i=>[.row [.d (.int .i64 49),.sl 1 [] .full,.sl 3 (encNs ((l.take i).map objI)) (.right 1)],.right 3 (encNs ((l.take i).map objI)).length])
  (fun i=>i≤l.length) (fun i=>l.length-i) 0 (by omega) ⟨.refl _,.refl _,.int (by rw [hll]),.refl _,trivial⟩ (HLe.refl _) ?_
 intro i hi
 have hwr:IntKind.i64.wrap ((i:Int)+1)=((i+1:Nat):Int):=by rw [qAe (by omega)];simp
 have hkl:(encNs ((l.take i).map objI)).length≤16:=by rw [qAm];simp;omega
 refine ww ?_
 refine qAa rfl (fun c2=>?_) (fun c2=>?_)
 ·have c2':i < l.length:=by have h3:(i:Int) < (l.length:Int):=(by simpa using c2);omega
  have hel:=encFs_at c2'
  have htk:encNs ((l.take (i+1)).map objI)=encNs ((l.take i).map objI)++[encN (objI l[i])]:=by
   rw [List.take_succ_eq_append_getElem c2',List.map_append,qDs];rfl
  have ho:=objIP_spec l[i] (infL_get g3 c2')
  generalize l[i]=t at hel ho htk
  generalize encNs ((l.take i).map objI)=ks at hkl htk ⊢
  generalize hnd:encN (objI t)=nd at htk
  have hnd':∃ v k,nd=[.int .i64 48,.sl 1 v,.sl 3 k]:=⟨_,_,hnd.symm⟩
  unfold nAV at ho
  rw [hnd] at ho
  obtain ⟨vv,kk,rfl⟩:=hnd'
  unfold fCells at ho
  refine ww ?_
  refine wwi hel ?_
  refine wwn ?_
  show AW Tryz.prog E _ _ _ _ _
  refine qBg (fun i=>bif Nat.beq i 1 then [0] else bif Nat.beq i 2 then [2] else bif Nat.beq i 5 then [1] else bif Nat.beq i 7 then [0] else []) (fun i=>bif Nat.beq i 5 then [1] else bif Nat.beq i 7 then [0] else []) mixed (by kernel_rfl) ?_
  refine wwg ?_
  refine wwdc ho ?_
  refine wwg ?_
  refine qAs (os:=[]) (fun k hk1 hk2=>qCz hT rfl rfl) rfl ?_
  refine qAs (v:=.sl 3 (ks++[[.int .i64 48,.sl 1 vv,.sl 3 kk]]) (.right 1)) (os:=[.right 3 (ks++[[Dat.int .i64 48,.sl 1 vv,.sl 3 kk]]).length]) (fun k hk1 hk2=>qAk (i:=1) hT rfl rfl rfl rfl ((hk2 1 List.mem_cons_self).trans rfl) rfl (by show (ks.length+1)*(56+1)≤_;omega)) rfl ?_
  refine wwg ?_
  refine ww ?_
  refine ⟨i+1,[_],by omega,by omega,⟨.refl _,.refl _,.refl _,.int hwr,trivial⟩,⟨ObLe.row (by rw [htk]),⟨rfl,congrArg List.length htk.symm⟩,.refl _,trivial⟩,Env.below_mono hE (by simp),rfl,rfl⟩
 ·have c2':i=l.length:=by have h3:¬ (i:Int) < (l.length:Int):=(by simpa using c2);omega
  subst c2'
  rw [List.take_length]
  show AW Tryz.prog E _ _ _ _ _
  refine qDm (l:=[(5,.ptr 0 0)]) (h':=[.row [.d (.int .i64 49),.d (.sl 1 []),.d (.sl 3 (encNs (l.map objI)))],.dead]) ⟨.refl _,trivial⟩ ⟨⟨.refl _,.dat,.dat,trivial⟩,trivial,trivial⟩ ?_
  have henc':Spec Tryz.prog 94 [.d (.sl 3 [[.int .i64 49,.sl 1 [],.sl 3 (encNs (l.map objI))]])] [] (fun r h'=>r=.tup [.d (.sl 1 (encB b)),.d (.int .i64 f)]∧h'=[]):=henc
  refine ww ?_
  refine wwc henc' ?_
  refine ww ?_
  exact wwr
end Tdoc
namespace Tdoc
open Go Go.Proofs
theorem infosP_walk (l:List Inf) (hl:l.length≤1000000) (hp:validI l=0→(encodeP [setI l]).2=0∧(encodeP [setI l]).1.length≤10000∧(parseX (encodeP [setI l]).1 true).1=[setI l]):Spec Tryz.prog 32 [.d (.sl 5 (encFs l))] [] (fun r h'=>r=.tup [.d (.sl 1 (encB (infosF l).1)),.d (.int .i64 (infosF l).2)]∧h'=[]):=by
 have hc:=encIP_spec l hl
 have hcv:=@validI_ok l
 unfold encIF at hc
 unfold infosF
 by_cases h0:validI l=0
 ·obtain ⟨p1,p2,p3⟩:=hp h0
  obtain ⟨g1,g3⟩:=hcv h0
  rw [if_neg (by simp [h0])] at hc ⊢
  obtain ⟨f1,f2⟩:=setI_fit g1
  have hw:=Wrap_spec 14 (by omega) [setI l] (by simp) f1 (by omega) (by have:=wrSetI g1;omega)
  have hps:=Parse_spec (encodeP [setI l]).1 true (by omega)
  rw [p3] at hps
  rw [p1] at hc
  generalize (encodeP [setI l]).1=b at hc hps
  generalize (parseX b true).2=pe at hps
  generalize wrapG 14 [setI l]=w at hw
  obtain ⟨w,we⟩:=w
  simp only at hw ⊢
  generalize encNs [setI l]=ks at hps hw
  refine qAb hT Tryz.func32 rfl rfl rfl rfl ?_;intro E hE
  refine ww ?_
  refine wwc hc ?_
  refine ww ?_
  refine qAa rfl (fun c1=>?_) (fun c1=>?_)
  ·exact absurd c1 (by simp)
  refine ww ?_
  refine wwc hps ?_
  refine ww ?_
  refine wwc hw ?_
  refine ww ?_
  exact wwr
 ·rw [if_pos h0] at hc ⊢
  simp only at hc ⊢
  generalize validI l=e at hc h0
  refine qAb hT Tryz.func32 rfl rfl rfl rfl ?_;intro E hE
  refine ww ?_
  refine wwc hc ?_
  refine ww ?_
  refine qAa rfl (fun c1=>?_) (fun c1=>?_)
  case refine_2=>exact absurd (by simpa using c1) h0
  refine ww ?_
  exact wwr
end Tdoc
namespace Tdoc
open Go Go.Proofs
inductive LenS (n:Nat):List UInt8→Prop where
 | one:n < 128→LenS n [UInt8.ofNat n]
 | two:128≤n→n < 256→LenS n [129,UInt8.ofNat n]
 | three:256≤n→LenS n [130,UInt8.ofNat (n / 256 % 256),UInt8.ofNat (n % 256)]
theorem lenB_S {n:Nat} (h:n≤4097):LenS n (lenB n):=by
 rw [← lenR_eq h]
 unfold lenR
 split
 ·exact .one (by omega)
 ·split
  ·exact .two (by omega) (by omega)
  ·exact .three (by omega)
inductive EncS:List Node→List UInt8→Prop where
 | nil:EncS [] []
 | prim {t:Int} {v:List UInt8} {k:List Node} {l:List Node} {f r:List UInt8}:tagCons t=false→LenS v.length f→EncS l r→EncS (.mk t v k::l) (tagB t++(f++(v++r)))
 | cons {t:Int} {v:List UInt8} {k:List Node} {l:List Node} {f c r:List UInt8}:tagCons t=true→EncS k c→LenS c.length f→EncS l r→EncS (.mk t v k::l) (tagB t++(f++(c++r)))
theorem lenX_atS {b:List UInt8} {e q n:Nat} {f:List UInt8} (op:Bool) (hf:LenS n f) (hn:n < 65536) (h:At b e q f):lenX b e op true q=((n:Int),0,q+f.length):=by
 unfold lenX
 cases hf with
 | one h1 =>
  obtain ⟨a1,a2,_⟩:=h.head
  rw [toNat_mod] at a1
  rw [if_neg (by omega),if_pos (by omega)]
  simp only [List.length_cons,List.length_nil]
  rw [a1,Nat.mod_eq_of_lt (by omega)]
 | two h0 h1 =>
  obtain ⟨a1,a2,a3⟩:=h.head
  obtain ⟨b1,b2,_⟩:=a3.head
  rw [toNat_mod] at b1
  have a1:byteAt b q=129:=a1
  have e1:numB b (q+1) (129 % 16) 0=n:=by
   simp only [numB]
   rw [b1,Nat.mod_eq_of_lt (by omega)]
   simp
  rw [if_neg (by omega),if_neg (by omega),if_neg (by omega),if_neg (by omega),if_neg (by omega),a1,e1,if_neg ?_]
  ·rfl
  ·rintro ⟨_,h2 | h2⟩
   ·omega
   ·have h3:n / 1=0:=h2
    omega
 | three h0 =>
  obtain ⟨a1,a2,a3⟩:=h.head
  obtain ⟨b1,b2,b3⟩:=a3.head
  obtain ⟨c1,c2,_⟩:=b3.head
  rw [toNat_mod] at b1 c1
  have a1:byteAt b q=130:=a1
  have e1:numB b (q+1) (130 % 16) 0=n:=by
   simp only [numB]
   rw [b1,c1]
   omega
  rw [if_neg (by omega),if_neg (by omega),if_neg (by omega),if_neg (by omega),if_neg (by omega),a1,e1,if_neg ?_]
  ·rfl
  ·rintro ⟨_,h2 | h2⟩
   ·omega
   ·have h3:n / 256=0:=h2
    omega
theorem encS_steps (b:List UInt8) {l:List Node} {r:List UInt8} (h:EncS l r):∀ (k d e p c:Nat),(chkL d l 0).1=0→d+k=9→c+sizeL l≤256→r.length < 65536→e≤b.length→At b e p r→Steps b (objX b true (k+1) e d) e p c l (p+r.length) (c+sizeL l):=by
 induction h with
 | nil=>intro k d e p c _ _ _ _ _ _;exact .nil p c
 | @prim t v k0 l f r h1 h2 h3 ih =>
  intro k d e p c hch hk hc hr he ha
  obtain ⟨c1,c2⟩:=chkL_inv hch
  obtain ⟨t1,t2,t3,t4,t5⟩:=chkN_inv c1
  obtain rfl:=t2 h1
  obtain ⟨g1,g2⟩:=tagX_at t1 ha.left
  have a2:=ha.right
  have a3:=a2.left
  have a4:=a2.right
  have a5:=a4.left
  have a6:=a4.right
  simp only [List.length_append] at hr
  have hsz:sizeL (Node.mk t v []::l)=1+sizeL l:=by simp [sizeL,sizeN]
  rw [hsz] at hc ⊢
  have hl:=lenX_atS false h2 (by omega) a3
  have hbd:=a5.1
  refine .cons (p1:=p+(tagB t).length+f.length+v.length) (c1:=c+1) ?_ g2 ?_ ?_
  ·have:=(tagX_inv (b:=b) (e:=e) (p:=p) (by rw [g1])).1
   rw [g1] at this;simp only at this;omega
  ·rw [objX,g1]
   simp only [ne_eq,not_true_eq_false,if_false]
   rw [Bool.not_true,Bool.and_false,hl]
   unfold objY
   simp only [ne_eq,not_true_eq_false,if_false]
   rw [if_neg (by omega),if_neg (by omega),if_neg (by omega),if_neg (by omega),if_neg (by simp [h1])]
   rw [Int.toNat_natCast,a5.cut he]
  ·have:=ih k d e (p+(tagB t).length+f.length+v.length) (c+1) c2 hk (by omega) (by omega) he a6
   simp only [List.length_append]
   rw [show p+((tagB t).length+(f.length+(v.length+r.length)))=p+(tagB t).length+f.length+v.length+r.length by omega,show c+(1+sizeL l)=c+1+sizeL l by omega]
   exact this
 | @cons t v k0 l f c0 r h1 h2 h3 h4 ihk ih =>
  intro k d e p c hch hk hc hr he ha
  obtain ⟨c1,c2⟩:=chkL_inv hch
  obtain ⟨t1,t2,t3,t4,t5⟩:=chkN_inv c1
  obtain rfl:=t3 h1
  obtain ⟨g1,g2⟩:=tagX_at t1 ha.left
  have a2:=ha.right
  have a3:=a2.left
  have a4:=a2.right
  have a5:=a4.left
  have a6:=a4.right
  simp only [List.length_append] at hr
  have hsz:sizeL (Node.mk t [] k0::l)=1+sizeL k0+sizeL l:=by simp [sizeL,sizeN]
  rw [hsz] at hc ⊢
  have hl:=lenX_atS false h3 (by omega) a3
  have hbd:=a5.1
  obtain ⟨k,rfl⟩:∃ k',k=k'+1:=⟨k-1,by omega⟩
  refine .cons (p1:=p+(tagB t).length+f.length+c0.length) (c1:=c+1+sizeL k0) ?_ g2 ?_ ?_
  ·have:=(tagX_inv (b:=b) (e:=e) (p:=p) (by rw [g1])).1
   rw [g1] at this;simp only at this;omega
  ·rw [objX,g1]
   simp only [ne_eq,not_true_eq_false,if_false]
   rw [Bool.not_true,Bool.and_false,hl]
   unfold objY
   simp only [ne_eq,not_true_eq_false,if_false]
   rw [if_neg (by omega),if_neg (by omega),if_neg (by omega),if_neg (by omega),if_pos h1]
   rw [Int.toNat_natCast]
   have hst:=ihk k (d+1) (p+(tagB t).length+f.length+c0.length) (p+(tagB t).length+f.length) (c+1) (by rw [chkL_any _ _ 0 1];exact t5) (by omega) (by omega) (by omega) (by omega) (a5.mono (by omega))
   have hln:=hst.len (objX_ok b true (k+1) _ (d+1)) (by omega) (by omega)
   rw [hst.loop rfl _ _ (by omega),List.nil_append]
  ·have:=ih (k+1) d e (p+(tagB t).length+f.length+c0.length) (c+1+sizeL k0) c2 hk (by omega) (by omega) he a6
   simp only [List.length_append]
   rw [show p+((tagB t).length+(f.length+(c0.length+r.length)))=p+(tagB t).length+f.length+c0.length+r.length by omega,show c+(1+sizeL k0+sizeL l)=c+1+sizeL k0+sizeL l by omega]
   exact this
theorem encS_parse {l:List Node} {r:List UInt8} (h:EncS l r) (hc:(chkL 1 l 0).1=0) (hs:sizeL l≤256) (hr:r.length≤4096):parseX r true=(l,0):=by
 have hst:=encS_steps r h 8 1 r.length 0 0 hc rfl (by omega) (by omega) (Nat.le_refl _) (At.whole r)
 have hln:=hst.len (objX_ok r true 9 _ 1) (by omega) (by omega)
 unfold parseX
 rw [if_neg (by omega),hst.loop (by omega) _ _ (by omega),List.nil_append]
end Tdoc
namespace Tdoc
open Go Go.Proofs
theorem wrL_encS:∀ (n:Nat) (l:List Node),sizeL l≤n→(wrL l).length≤4096→EncS l (wrL l)
 | _,[],_,_=>.nil
 | 0,.mk t v k::l,h,_=>by simp only [sizeL,sizeN] at h;omega
 | n+1,.mk t v k::l,h,hw=>by
  have hs:sizeL k≤n∧sizeL l≤n:=by simp only [sizeL,sizeN] at h;omega
  by_cases hc:tagCons t=true
  ·have e:wrL (.mk t v k::l)=tagB t++(lenB (wrL k).length++(wrL k++wrL l)):=by simp [wrL,wrN,hc]
   rw [e] at hw ⊢
   simp only [List.length_append] at hw
   exact .cons hc (wrL_encS n k hs.1 (by omega)) (lenB_S (by omega)) (wrL_encS n l hs.2 (by omega))
  ·have hc':tagCons t=false:=by simpa using hc
   have e:wrL (.mk t v k::l)=tagB t++(lenB v.length++(v++wrL l)):=by simp [wrL,wrN,hc']
   rw [e] at hw ⊢
   simp only [List.length_append] at hw
   exact .prim hc' (lenB_S (by omega)) (wrL_encS n l hs.2 (by omega))
theorem chk_objI (x:Inf):(chkN 2 (objI x) 0).1=0:=by
 have t1:tagOk 48=true:=by decide
 have t2:tagCons 48=true:=by decide
 have t3:tagOk 6=true:=by decide
 have t4:tagCons 6=false:=by decide
 have t5:tagOk 2=true:=by decide
 have t6:tagCons 2=false:=by decide
 have t7:tagOk 4=true:=by decide
 have t8:tagCons 4=false:=by decide
 unfold objI
 split
 ·simp [chkN,chkL,t1,t2,t3,t4,t5,t6]
 split
 ·simp [chkN,chkL,t1,t2,t3,t4,t5,t6,t7,t8]
 ·simp [chkN,chkL,t1,t2,t3,t4,t5,t6]
theorem chk_setI (l:List Inf):(chkL 1 [setI l] 0).1=0:=by
 have t1:tagOk 49=true:=by decide
 have t2:tagCons 49=true:=by decide
 have hk:∀ c,(chkL 2 (l.map objI) c).1=0:=fun c=>chkL_of fun n hn=>by
  obtain ⟨x,_,rfl⟩:=List.mem_map.1 hn
  exact chk_objI x
 have h1:(chkN 1 (setI l) 0).1=0:=by
  unfold setI
  rw [chkN,if_neg (by simp [t1]),if_neg (by simp [t2]),if_neg (by omega)]
  exact hk _
 exact chkL_of fun n hn=>by rw [List.mem_singleton.1 hn];exact h1
theorem encI_parse (l:List Inf) (h0:validI l=0):(encodeP [setI l]).2=0∧(encodeP [setI l]).1.length≤10000∧(parseX (encodeP [setI l]).1 true).1=[setI l]:=by
 obtain ⟨g1,g3⟩:=validI_ok h0
 obtain ⟨f1,f2⟩:=setI_fit g1
 have hc:=chk_setI l
 have hcnt:=qDu 1 [setI l] 0
 have hw:(wrL [setI l]).length≤4096:=by
  have h1:=wrObjIs l
  have h2:=qAf 49 [] (l.map objI) []
  have h3:(wrL ([]:List Node)).length=0:=rfl
  unfold setI
  simp only [List.length_nil] at *
  omega
 have he:encodeP [setI l]=(wrL [setI l],0):=by
  unfold encodeP
  rw [if_neg (by rw [hc];simp),if_neg (by omega),if_neg (by omega)]
 rw [he]
 refine ⟨rfl,by simp only;omega,?_⟩
 simp only
 rw [encS_parse (wrL_encS _ _ (Nat.le_refl _) hw) hc (by omega) hw]
theorem infosP_spec (l:List Inf) (hl:l.length≤1000000):Spec Tryz.prog 32 [.d (.sl 5 (encFs l))] [] (fun r h'=>r=.tup [.d (.sl 1 (encB (infosF l).1)),.d (.int .i64 (infosF l).2)]∧h'=[]) :=
 infosP_walk l hl fun h0=>encI_parse l h0
end Tdoc
namespace Tdoc
open Go Go.Proofs
theorem isUp_ne {c:UInt8} (h:isUp c=true):c≠32:=by rintro rfl;revert h;decide
theorem nameL_up:∀ (b:Bool) (w:List UInt8),w.all isUp=true→nameL b w=true
 | _,[],_=>rfl
 | b,c::w,h=>by
  rw [List.all_cons,Bool.and_eq_true] at h
  rw [nameL,if_neg (isUp_ne h.1),nameL_up false w h.2,Bool.and_true]
  exact h.1
theorem nameL_join:∀ (b:Bool) (s w:List UInt8),nameL b s=true→s≠[]→w≠[]→w.all isUp=true→nameL b (s++32::w)=true
 | _,[],_,_,h,_,_=>absurd rfl h
 | b,[c],w,h,_,hw,hu=>by
  rw [nameL] at h
  split at h
  ·simp at h
  ·rename_i h1
   rw [nameL,Bool.and_true] at h
   rw [List.cons_append,List.nil_append,nameL,if_neg h1,h,Bool.true_and,nameL,if_pos rfl,nameL_up true w hu]
   cases w with
   | nil=>exact absurd rfl hw
   | cons x w=>rfl
 | b,c::c2::s,w,h,_,hw,hu=>by
  rw [nameL] at h
  rw [List.cons_append,nameL]
  split at h
  ·rename_i h1
   rw [if_pos h1]
   simp only [Bool.and_eq_true] at h
   rw [nameL_join true (c2::s) w h.2 (by simp) hw hu,h.1.1]
   rfl
  ·rename_i h1
   rw [if_neg h1]
   rw [Bool.and_eq_true] at h
   rw [nameL_join false (c2::s) w h.2 (by simp) hw hu,h.1]
   rfl
def NameM (w:Nat) (s:List UInt8):Prop:=nameL true s=true∧s.length≤11*w
theorem NameM.first {k:Nat} {w:List UInt8} (hu:w.all isUp=true) (hl:w.length≤10):NameM (k+1) w:=⟨nameL_up _ _ hu,by omega⟩
theorem NameM.next {k:Nat} {s w:List UInt8} (h:NameM k s) (hs:s≠[]) (hu:w.all isUp=true) (hl:w.length≤10) (hw:w≠[]):NameM (k+1) (s++32::w):=⟨nameL_join _ _ _ h.1 hs hw hu,by have:=h.2;simp;omega⟩
def signC:List UInt8:=[48,49,50,51,52,53,54,55,56,57,65,66,67,68,69,70,71,72,73,74,75,76,77,78,79,80,81,82,83,84,85,86,87,88,89,90]
theorem signC_plain:plainF signC=true:=by decide
def SignM (n:Nat) (s:List UInt8):Prop:=plainF s=true∧1≤s.length∧s.length≤n
theorem plainF_append (a b:List UInt8):plainF (a++b)=(plainF a&&plainF b):=List.all_append
theorem plain_valid:∀ {s:List UInt8},plainF s=true→validS s=true
 | [],_=>rfl
 | c::s,h=>by
  rw [plainF,List.all_cons,Bool.and_eq_true,decide_eq_true_eq] at h
  rw [validS,plain_valid h.2,Bool.and_true,decide_eq_true_eq]
  exact h.1.2
end Tdoc
namespace Tdoc
open Go Go.Proofs
def wordT:List (List UInt8):=[[65],[69,82,73,75,83,83,79,78],[77,65,82,73,65],[68,69],[76,79,83],[79,75],[86,65,78,68,69,82,86,65,76,75],[90,90]]
theorem wordT_ok:∀ w,w∈wordT→w.all isUp=true∧w.length≤10∧w≠[]:=by decide
def wordRow:List AV:=wordT.map fun w=>.d (.str w)
theorem wordRow_at {x:Int} (h1:0≤x) (h2:x < 8):∃ w,wordRow[0+x.toNat*1]?=some (.d (.str w))∧w.all isUp=true∧w.length≤10∧w≠[]:=by
 have hl:x.toNat < wordT.length:=by show x.toNat < 8;omega
 exact ⟨wordT[x.toNat],by simp [wordRow,hl],wordT_ok _ (List.getElem_mem hl)⟩
def DNameP (L:List Int) (w:Nat) (x:List UInt8×Nat):Prop:=NameM w x.1∧x.2≤L.length
theorem NameM.mono {a b:Nat} {s:List UInt8} (h:NameM a s) (hab:a≤b):NameM b s:=⟨h.1,by have:=h.2;omega⟩
theorem DName_spec (L:List Int) (hL:L.length≤1000000) (a:Nat) (ha:a≤L.length) (w:Nat) (hw:w≤100) :
  Spec Tryz.prog 60 [.ptr 0 0,.d (.int .i64 (w:Int))] [.row (diceR L a)] (fun r h'=>∃ x,DNameP L w x∧r=.d (.str x.1)∧h'=[.row (diceR L x.2)]):=by
 have hN:=fun a ha n h1 hn=>Next_spec L hL a ha n h1 hn
 have hw0:IntKind.i64.wrap ((w:Int)+1)=((w+1:Nat):Int):=by rw [qAe (by omega)];omega
 refine qAb hT Tryz.func60 rfl rfl rfl rfl ?_;intro E hE
 refine ww ?_
 refine qAz (callX rfl rfl (hN a ha ((w+1:Nat):Int) (by omega) (by omega)) [0] (by decide) rfl (by rw [← hw0];rfl) rfl rfl (fun _=>rfl) (fun _=>rfl) (fun _=>rfl)) rfl ?_
 rintro ⟨m,a1⟩ ⟨q1,q2,q3⟩
 simp only at q1 q2 q3 ⊢
 obtain ⟨m,rfl⟩:∃ m':Nat,m=(m':Int):=⟨m.toNat,by omega⟩
 refine ww ?_
 refine qAq (ι:=Nat×Nat×List UInt8) (fun x=>[(0,.ptr 0 0),(5,.ptr 1 0),(6,.d (.str x.2.2)),(7,.d (.int .i64 (x.2.1:Int)))]) (fun x=>[.row (diceR L x.1),.row wordRow])
  (fun x=>x.1≤L.length∧∃ k,NameM k x.2.2∧k+x.2.1≤w) (fun x=>x.2.1) (a1,m,[]) ⟨q3,0,⟨rfl,by simp⟩,by simp only;omega⟩ ⟨.refl _,.refl _,.refl _,.refl _,trivial⟩ (HLe.refl _) ?_
 rintro ⟨b,m,s⟩ ⟨h1,k,hk,hkm⟩
 simp only at h1 hk hkm ⊢
 have hsl:=hk.2
 refine ww ?_
 refine qAa rfl (fun h3=>?_) (fun h3=>?_)
 ·obtain ⟨m,rfl⟩:∃ m',m=m'+1:=⟨m-1,by simp at h3;omega⟩
  have hwm:IntKind.i64.wrap (((m+1:Nat):Int)-1)=(m:Int):=by rw [qAe (by omega)];omega
  refine ww ?_
  refine qAa rfl (fun h4=>?_) (fun h4=>?_)
  ·have h4':s≠[]:=by simpa using h4
   refine ww ?_
   refine qAz (callX rfl rfl (hN b h1 8 (by omega) (by omega)) [0] (by decide) rfl rfl rfl rfl (fun _=>rfl) (fun _=>rfl) (fun _=>rfl)) rfl ?_
   rintro ⟨x,b2⟩ ⟨r1,r2,r3⟩
   simp only at r1 r2 r3 ⊢
   obtain ⟨wd,e1,e2,e3,e4⟩:=wordRow_at r1 r2
   refine ww ?_
   refine qAd (qAc (qAh hT rfl rfl rfl rfl ⟨r1,r2⟩)) rfl ?_
   refine qAd (qBd hT rfl rfl rfl rfl rfl e1) rfl ?_
   refine ww ?_
   refine ⟨(b2,m,s++32::wd),⟨r3,k+1,hk.next h4' e2 e3 e4,by simp only;omega⟩,by simp only;omega,⟨.refl _,.refl _,.str ?_,.int hwm,trivial⟩,HLe.refl _⟩
   simp
  ·have h4':s=[]:=by simpa using h4
   subst h4'
   refine ww ?_
   refine qAz (callX rfl rfl (hN b h1 8 (by omega) (by omega)) [0] (by decide) rfl rfl rfl rfl (fun _=>rfl) (fun _=>rfl) (fun _=>rfl)) rfl ?_
   rintro ⟨x,b2⟩ ⟨r1,r2,r3⟩
   simp only at r1 r2 r3 ⊢
   obtain ⟨wd,e1,e2,e3,e4⟩:=wordRow_at r1 r2
   refine ww ?_
   refine qAd (qAc (qAh hT rfl rfl rfl rfl ⟨r1,r2⟩)) rfl ?_
   refine qAd (qBd hT rfl rfl rfl rfl rfl e1) rfl ?_
   refine ww ?_
   exact ⟨(b2,m,wd),⟨r3,k+1,.first e2 e3,by simp only;omega⟩,by simp only;omega,⟨.refl _,.refl _,.refl _,.int hwm,trivial⟩,HLe.refl _⟩
 ·refine ww ?_
  exact ret_q ⟨(s,b),⟨hk.mono (by omega),h1⟩,rfl,rfl⟩ rfl (.refl _) rfl rfl rfl rfl
def DSignP (L:List Int) (n:Nat) (x:List UInt8×Nat):Prop:=SignM n x.1∧x.2≤L.length
theorem DSigns_spec (L:List Int) (hL:L.length≤1000000) (a:Nat) (ha:a≤L.length) (n:Nat) (h1:1≤n) (hn:n≤100) :
  Spec Tryz.prog 61 [.ptr 0 0,.d (.int .i64 (n:Int))] [.row (diceR L a)] (fun r h'=>∃ x,DSignP L n x∧r=.d (.str x.1)∧h'=[.row (diceR L x.2)]):=by
 have hN:=fun a ha n h1 hn=>Next_spec L hL a ha n h1 hn
 refine qAb hT Tryz.func61 rfl rfl rfl rfl ?_;intro E hE
 refine ww ?_
 refine qAz (callX rfl rfl (hN a ha (n:Int) (by omega) (by omega)) [0] (by decide) rfl rfl rfl rfl (fun _=>rfl) (fun _=>rfl) (fun _=>rfl)) rfl ?_
 rintro ⟨m,a1⟩ ⟨q1,q2,q3⟩
 simp only at q1 q2 q3 ⊢
 obtain ⟨m,rfl⟩:∃ m':Nat,m=(m':Int):=⟨m.toNat,by omega⟩
 have hw0:IntKind.i64.wrap (1+(m:Int))=((m+1:Nat):Int):=by rw [qAe (by omega)];omega
 refine ww ?_
 refine qAo (qBh 5 1 1 (es:=[]) (.inr ⟨rfl,rfl⟩) rfl ?_)
 refine qAq (ι:=Nat×Nat×List UInt8) (fun x=>[(0,.ptr 0 0),(5,.sl 1 (encB x.2.2) (.right 1)),(6,.d (.int .i64 (x.2.1:Int)))]) (fun x=>[.row (diceR L x.1),.right 1 (encB x.2.2).length])
  (fun x=>x.1≤L.length∧plainF x.2.2=true∧x.2.2.length+x.2.1≤n∧1≤x.2.2.length+x.2.1) (fun x=>x.2.1) (a1,m+1,[]) ⟨q3,rfl,by simp;omega,by simp⟩ ⟨.refl _,.refl _,.int hw0,trivial⟩ (HLe.refl _) ?_
 rintro ⟨b,m,out⟩ ⟨h1,h2,h3,h4⟩
 simp only at h1 h2 h3 h4 ⊢
 have hol:=qAl out
 refine ww ?_
 refine qAa rfl (fun h5=>?_) (fun h5=>?_)
 ·obtain ⟨m,rfl⟩:∃ m',m=m'+1:=⟨m-1,by simp at h5;omega⟩
  refine ww ?_
  refine qAz (callX rfl rfl (hN b h1 36 (by omega) (by omega)) [0] (by decide) rfl rfl rfl rfl (fun _=>rfl) (fun _=>rfl) (fun _=>rfl)) rfl ?_
  rintro ⟨x,b2⟩ ⟨r1,r2,r3⟩
  simp only at r1 r2 r3 ⊢
  have hxl:x.toNat < signC.length:=by show x.toNat < 36;omega
  have hsx:strAt signC x=bI signC[x.toNat]:=by
   have:=qCp hxl
   rw [Int.toNat_of_nonneg r1] at this
   exact this
  have hmem:plainF [signC[x.toNat]]=true:=by
   have:=signC_plain
   unfold plainF at this ⊢
   rw [List.all_eq_true] at this
   simpa using this _ (List.getElem_mem hxl)
  have hsc:strAt (ByteArray.mk #[48,49,50,51,52,53,54,55,56,57,65,66,67,68,69,70,71,72,73,74,75,76,77,78,79,80,81,82,83,84,85,86,87,88,89,90]).data.toList x=bI signC[x.toNat]:=hsx
  generalize signC[x.toNat]=c at hsc hmem
  have hlen:0≤x∧x < ((ByteArray.mk #[48,49,50,51,52,53,54,55,56,57,65,66,67,68,69,70,71,72,73,74,75,76,77,78,79,80,81,82,83,84,85,86,87,88,89,90]).data.toList.length:Int):=⟨r1,r2⟩
  refine ww ?_
  refine qAd (qAk (i:=1) hT rfl rfl rfl rfl rfl rfl (by show ((encB out).length+1)*(1+1)≤_;first | omega | (simp only [qAl,qAm,List.length_append,List.length_cons,List.length_nil];omega))) rfl ?_
  have hwm:IntKind.i64.wrap (((m+1:Nat):Int)-1)=(m:Int):=by rw [qAe (by omega)];omega
  refine ww ?_
  have hres:encB (out++[c])=encB out++[[Dat.int .u8 (strAt (ByteArray.mk #[48,49,50,51,52,53,54,55,56,57,65,66,67,68,69,70,71,72,73,74,75,76,77,78,79,80,81,82,83,84,85,86,87,88,89,90]).data.toList x)]]:=by rw [qCj,hsc];rfl
  exact ⟨(b2,m,out++[c]),⟨r3,by rw [plainF_append,h2,hmem];rfl,by simp only [List.length_append,List.length_singleton];omega,by simp only [List.length_append,List.length_singleton];omega⟩,by simp only;omega,⟨.refl _,AV.le.eq (by rw [hres];rfl),.int hwm,trivial⟩,⟨ObLe.refl _,⟨rfl,by rw [hres]⟩,trivial⟩⟩
 ·have h5':m=0:=by simp at h5;omega
  subst h5'
  refine wwe ?_
  refine qAu (qAn ?_)
  refine wws ?_
  refine qCa hT rfl rfl (qBk out) ?_
  refine ww ?_
  refine ret_q (r:=.d (.str out)) ⟨(out,b),⟨⟨h2,by omega,by omega⟩,h1⟩,rfl,rfl⟩ rfl ?_ rfl rfl rfl rfl
  rw [qBp]
  exact .refl _
theorem DDay_spec (L:List Int) (hL:L.length≤1000000) (a:Nat) (ha:a≤L.length) :
  Spec Tryz.prog 63 [.ptr 0 0] [.row (diceR L a)] (fun r h'=>∃ x,NextP L 72900 x∧r=.d (.int .i64 x.1)∧h'=[.row (diceR L x.2)]):=by
 have hN:=fun a ha n h1 hn=>Next_spec L hL a ha n h1 hn
 refine qAb hT Tryz.func63 rfl rfl rfl rfl ?_;intro E hE
 refine ww ?_
 refine qAz (callX rfl rfl (hN a ha 243 (by omega) (by omega)) [0] (by decide) rfl rfl rfl rfl (fun _=>rfl) (fun _=>rfl) (fun _=>rfl)) rfl ?_
 rintro ⟨m,a1⟩ ⟨q1,q2,q3⟩
 simp only at q1 q2 q3 ⊢
 refine ww ?_
 refine qAz (callX rfl rfl (hN a1 q3 300 (by omega) (by omega)) [0] (by decide) rfl rfl rfl rfl (fun _=>rfl) (fun _=>rfl) (fun _=>rfl)) rfl ?_
 rintro ⟨k,a2⟩ ⟨r1,r2,r3⟩
 simp only at r1 r2 r3 ⊢
 have hw:IntKind.i64.wrap (IntKind.i64.wrap (m*300)+k)=m*300+k:=by rw [qAe (n:=m*300) (by omega),qAe (by omega)]
 refine ww ?_
 exact ret_q ⟨(m*300+k,a2),⟨by simp only;omega,by simp only;omega,r3⟩,rfl,rfl⟩ rfl (.int hw) rfl rfl rfl rfl
end Tdoc
namespace Tdoc
open Go Go.Proofs
def nxV (L:List Int) (a:Nat) (n:Int):Int:=match L[a]? with
 | none=>0
 | some x=>x % n
def nxA (L:List Int) (a:Nat):Nat:=if a < L.length then a+1 else a
theorem nxA_le {L:List Int} {a:Nat} (h:a≤L.length):nxA L a≤L.length:=by unfold nxA;split <;> omega
theorem nxV_range {L:List Int} {a:Nat} {n:Int} (h:1≤n):0≤nxV L a n∧nxV L a n < n:=by
 unfold nxV
 split
 ·omega
 ·exact ⟨Int.emod_nonneg _ (by omega),Int.emod_lt_of_pos _ (by omega)⟩
theorem NextD_spec (l:List Int) (hl:l.length≤1000000) (a:Nat) (ha:a≤l.length) (n:Int) (h1:1≤n) (hn:n≤4611686018427387904) :
  Spec Tryz.prog 12 [.ptr 0 0,.d (.int .i64 n)] [.row (diceR l a)] (fun r h'=>r=.d (.int .i64 (nxV l a n))∧h'=[.row (diceR l (nxA l a))]):=by
 have hll:=qDk l
 unfold diceR
 refine qAb hT Tryz.func12 rfl rfl rfl rfl ?_;intro E hE
 refine ww ?_
 refine qAa rfl (fun h2=>?_) (fun h2=>?_)
 ·have h2':¬ a < l.length:=by rw [hll] at h2;simp at h2;omega
  have hv:nxV l a n=0:=by unfold nxV;rw [List.getElem?_eq_none (by omega)]
  have hv2:nxA l a=a:=by unfold nxA;rw [if_neg h2']
  rw [hv,hv2]
  refine ww ?_
  exact wwr
 ·have h2':a < l.length:=by rw [hll] at h2;simp at h2;omega
  have hw1:IntKind.i64.wrap ((a:Int)+1)=((a+1:Nat):Int):=by rw [qAe (by omega)];simp
  have hw2:IntKind.i64.wrap (((a+1:Nat):Int)-1)=(a:Int):=by rw [qAe (by omega)];omega
  have h0:0≤IntKind.i64.wrap (IntKind.i64.wrap ((a:Int)+1)-1):=by rw [hw1,hw2];omega
  have hel:(encI l)[(IntKind.i64.wrap (IntKind.i64.wrap ((a:Int)+1)-1)).toNat]?=some [.int .i64 l[a]]:=by rw [hw1,hw2];simp [encI,h2']
  have hm:=Mod_spec l[a] n h1 hn
  have hv:nxV l a n=l[a] % n:=by unfold nxV;rw [List.getElem?_eq_getElem h2']
  have hv2:nxA l a=a+1:=by unfold nxA;rw [if_pos h2']
  rw [hv,hv2]
  generalize l[a]=x at hel hm
  refine ww ?_
  refine qAp (qAc (qAi hT rfl rfl rfl rfl h0 hel)) rfl rfl ?_
  refine ww ?_
  refine wwc hm ?_
  refine ww ?_
  refine ret_q ⟨rfl,rfl⟩ rfl (.refl _) ?_ rfl rfl rfl
  rw [hw1];rfl
def sgC (x:Int):UInt8:=signC.getD x.toNat 0
def sgF (L:List Int) (a:Nat):Nat→List UInt8×Nat
 | 0=>([],a)
 | m+1=>(sgC (nxV L a 36)::(sgF L (nxA L a) m).1,(sgF L (nxA L a) m).2)
def signF (L:List Int) (a n:Nat):List UInt8×Nat:=sgF L (nxA L a) ((nxV L a n).toNat+1)
theorem sgC_plain {x:Int} (h:0≤x∧x < 36):plainF [sgC x]=true:=by
 have hxl:x.toNat < signC.length:=by show x.toNat < 36;omega
 have:=signC_plain
 unfold plainF at this ⊢
 rw [List.all_eq_true] at this
 have hg:sgC x=signC[x.toNat]:=by unfold sgC;simp [hxl]
 rw [hg]
 simpa using this _ (List.getElem_mem hxl)
theorem sgF_ok {L:List Int}:∀ (m a:Nat),a≤L.length→plainF (sgF L a m).1=true∧(sgF L a m).1.length=m∧(sgF L a m).2≤L.length
 | 0,a,h=>⟨rfl,rfl,h⟩
 | m+1,a,h=>by
  obtain ⟨h1,h2,h3⟩:=sgF_ok m (nxA L a) (nxA_le h)
  refine ⟨?_,by simp [sgF,h2],h3⟩
  show plainF ([sgC (nxV L a 36)]++(sgF L (nxA L a) m).1)=true
  rw [plainF_append,h1,sgC_plain (nxV_range (by omega))];rfl
theorem signF_ok {L:List Int} {a n:Nat} (ha:a≤L.length) (hn:1≤n):SignM n (signF L a n).1∧(signF L a n).2≤L.length:=by
 have hv:=nxV_range (L:=L) (a:=a) (n:=(n:Int)) (by omega)
 obtain ⟨h1,h2,h3⟩:=sgF_ok (L:=L) ((nxV L a n).toNat+1) (nxA L a) (nxA_le ha)
 exact ⟨⟨h1,by show 1≤(sgF L (nxA L a) ((nxV L a n).toNat+1)).1.length;omega,by show (sgF L (nxA L a) ((nxV L a n).toNat+1)).1.length≤n;omega⟩,h3⟩
theorem SignsD_spec (L:List Int) (hL:L.length≤1000000) (a:Nat) (ha:a≤L.length) (n:Nat) (h1:1≤n) (hn:n≤100) :
  Spec Tryz.prog 61 [.ptr 0 0,.d (.int .i64 (n:Int))] [.row (diceR L a)] (fun r h'=>r=.d (.str (signF L a n).1)∧h'=[.row (diceR L (signF L a n).2)]):=by
 have hN:=NextD_spec L hL a ha (n:Int) (by omega) (by omega)
 have hv:=nxV_range (L:=L) (a:=a) (n:=(n:Int)) (by omega)
 have hA:=nxA_le ha
 unfold signF
 generalize nxV L a n=m at hN hv
 generalize nxA L a=a1 at hN hA
 obtain ⟨m,rfl⟩:∃ m':Nat,m=(m':Int):=⟨m.toNat,by omega⟩
 rw [Int.toNat_natCast]
 have hw0:IntKind.i64.wrap (1+(m:Int))=((m+1:Nat):Int):=by rw [qAe (by omega)];omega
 generalize hfin:sgF L a1 (m+1)=fin
 refine qAb hT Tryz.func61 rfl rfl rfl rfl ?_;intro E hE
 refine ww ?_
 refine qAd (callS1 rfl rfl (hN) [0] (by decide) rfl rfl rfl rfl rfl rfl rfl) rfl ?_
 refine ww ?_
 refine qAo (qBh 5 1 1 (es:=[]) (.inr ⟨rfl,rfl⟩) rfl ?_)
 refine qAq (ι:=Nat×Nat×List UInt8) (fun x=>[(0,.ptr 0 0),(5,.sl 1 (encB x.2.2) (.right 1)),(6,.d (.int .i64 (x.2.1:Int)))]) (fun x=>[.row (diceR L x.1),.right 1 (encB x.2.2).length])
  (fun x=>x.1≤L.length∧x.2.2++(sgF L x.1 x.2.1).1=fin.1∧(sgF L x.1 x.2.1).2=fin.2∧x.2.2.length+x.2.1≤n) (fun x=>x.2.1) (a1,m+1,[]) ⟨hA,by simp only [hfin,List.nil_append],by simp only [hfin],by simp;omega⟩ ⟨.refl _,.refl _,.int hw0,trivial⟩ (HLe.refl _) ?_
 rintro ⟨b,m,out⟩ ⟨h1,h2,h3,h4⟩
 simp only at h1 h2 h3 h4 ⊢
 have hol:=qAl out
 refine ww ?_
 refine qAa rfl (fun h5=>?_) (fun h5=>?_)
 ·obtain ⟨m,rfl⟩:∃ m',m=m'+1:=⟨m-1,by simp at h5;omega⟩
  have hN:=NextD_spec L hL b h1 36 (by omega) (by omega)
  have hv:=nxV_range (L:=L) (a:=b) (n:=36) (by omega)
  have hA:=nxA_le h1
  rw [sgF] at h2 h3
  simp only at h2 h3
  generalize nxA L b=b2 at hN hA h2 h3
  generalize nxV L b 36=x at hN hv h2 h3
  have hxl:x.toNat < signC.length:=by show x.toNat < 36;omega
  have hsx:strAt signC x=bI (sgC x):=by
   have:=qCp hxl
   rw [Int.toNat_of_nonneg hv.1] at this
   rw [this];unfold sgC;simp [hxl]
  have hsc:strAt (ByteArray.mk #[48,49,50,51,52,53,54,55,56,57,65,66,67,68,69,70,71,72,73,74,75,76,77,78,79,80,81,82,83,84,85,86,87,88,89,90]).data.toList x=bI (sgC x):=hsx
  generalize sgC x=c at hsc h2
  have hlen:0≤x∧x < ((ByteArray.mk #[48,49,50,51,52,53,54,55,56,57,65,66,67,68,69,70,71,72,73,74,75,76,77,78,79,80,81,82,83,84,85,86,87,88,89,90]).data.toList.length:Int):=hv
  refine ww ?_
  refine qAd (callS1 rfl rfl (hN) [0] (by decide) rfl rfl rfl rfl rfl rfl rfl) rfl ?_
  refine ww ?_
  refine qAd (qAk (i:=1) hT rfl rfl rfl rfl rfl rfl (by show ((encB out).length+1)*(1+1)≤_;first | omega | (simp only [qAl,qAm,List.length_append,List.length_cons,List.length_nil];omega))) rfl ?_
  have hwm:IntKind.i64.wrap (((m+1:Nat):Int)-1)=(m:Int):=by rw [qAe (by omega)];omega
  refine ww ?_
  have hres:encB (out++[c])=encB out++[[Dat.int .u8 (strAt (ByteArray.mk #[48,49,50,51,52,53,54,55,56,57,65,66,67,68,69,70,71,72,73,74,75,76,77,78,79,80,81,82,83,84,85,86,87,88,89,90]).data.toList x)]]:=by rw [qCj,hsc];rfl
  exact ⟨(b2,m,out++[c]),⟨hA,by rw [← h2];simp,h3,by simp only [List.length_append,List.length_singleton];omega⟩,by simp only;omega,⟨.refl _,AV.le.eq (by rw [hres];rfl),.int hwm,trivial⟩,⟨ObLe.refl _,⟨rfl,by rw [hres]⟩,trivial⟩⟩
 ·have h5':m=0:=by simp at h5;omega
  subst h5'
  simp only [sgF,List.append_nil] at h2 h3
  subst h2
  subst h3
  refine wwe ?_
  refine qAu (qAn ?_)
  refine wws ?_
  refine qCa hT rfl rfl (qBk fin.1) ?_
  refine ww ?_
  refine ret_q (r:=.d (.str fin.1)) ⟨rfl,rfl⟩ rfl ?_ rfl rfl rfl rfl
  rw [qBp]
  exact .refl _
theorem BytesO_spec (l:List Int) (hl:l.length≤1000000) (a:Nat) (ha:a≤l.length) (n:Nat) (hn:n≤1000000) :
  Spec Tryz.prog 112 [.ptr 0 0,.d (.int .i64 (n:Int))] [.row (diceR l a),.room] (fun r h'=>∃ x,BytesP l n x∧r=.sl 1 (encB x.1) (.right 1)∧h'=[.row (diceR l x.2),.right 1 (encB x.1).length]):=by
 have hN:=fun a ha n h1 hn=>Next_spec l hl a ha n h1 hn
 have hw0:IntKind.i64.wrap ((n:Int)+1)=((n+1:Nat):Int):=by rw [qAe (by omega)];omega
 refine qAb hT Tryz.func112 rfl rfl rfl rfl ?_;intro E hE
 refine ww ?_
 refine qAz (callX rfl rfl (hN a ha ((n+1:Nat):Int) (by omega) (by omega)) [0] (by decide) rfl (by rw [← hw0];rfl) rfl rfl (fun _=>rfl) (fun _=>rfl) (fun _=>rfl)) rfl ?_
 rintro ⟨m,a1⟩ ⟨q1,q2,q3⟩
 simp only at q1 q2 q3 ⊢
 obtain ⟨m,rfl⟩:∃ m':Nat,m=(m':Int):=⟨m.toNat,by omega⟩
 refine ww ?_
 refine qBh 5 1 1 (es:=[]) (.inr ⟨rfl,rfl⟩) rfl ?_
 refine qAq (ι:=Nat×Nat×List UInt8) (fun x=>[(0,.ptr 0 0),(5,.sl 1 (encB x.2.2) (.right 1)),(6,.d (.int .i64 (x.2.1:Int)))]) (fun x=>[.row (diceR l x.1),.right 1 (encB x.2.2).length])
  (fun x=>x.1≤l.length∧x.2.2.length+x.2.1≤n) (fun x=>x.2.1) (a1,m,[]) ⟨q3,by simp;omega⟩ ⟨.refl _,.refl _,.refl _,trivial⟩ (HLe.refl _) ?_
 rintro ⟨b,m,out⟩ ⟨h1,h2⟩
 simp only at h1 h2 ⊢
 have hol:=qAl out
 refine ww ?_
 refine qAa rfl (fun h3=>?_) (fun h3=>?_)
 ·obtain ⟨m,rfl⟩:∃ m',m=m'+1:=⟨m-1,by simp at h3;omega⟩
  refine ww ?_
  refine qAz (callX rfl rfl (hN b h1 256 (by omega) (by omega)) [0] (by decide) rfl rfl rfl rfl (fun _=>rfl) (fun _=>rfl) (fun _=>rfl)) rfl ?_
  rintro ⟨x,b2⟩ ⟨r1,r2,r3⟩
  simp only at r1 r2 r3 ⊢
  have hx:=u8_of ⟨r1,r2⟩
  refine ww ?_
  refine qAd (qAk (i:=1) hT rfl rfl rfl rfl rfl rfl (by show ((encB out).length+1)*(1+1)≤_;omega)) rfl ?_
  have hwm:IntKind.i64.wrap (((m+1:Nat):Int)-1)=(m:Int):=by rw [qAe (by omega)];omega
  refine ww ?_
  have hres:encB (out++[UInt8.ofNat x.toNat])=encB out++[[Dat.int .u8 (IntKind.u8.wrap x)]]:=by rw [qCj,hx];rfl
  exact ⟨(b2,m,out++[UInt8.ofNat x.toNat]),⟨r3,by simp only [List.length_append,List.length_singleton];omega⟩,by simp only;omega,⟨.refl _,AV.le.eq (by rw [hres];rfl),.int hwm,trivial⟩,⟨ObLe.refl _,⟨rfl,by rw [hres]⟩,trivial⟩⟩
 ·refine ww ?_
  exact ret_q ⟨(out,b),⟨by simp only;omega,h1⟩,rfl,rfl⟩ rfl (.refl _) rfl rfl rfl rfl
theorem validT_mk {t:Tpl} (hk:(t.kind=1∧t.part=0)∨(t.kind=2∧1≤t.part∧t.part≤10)∨(t.kind=3∧1≤t.part∧t.part≤2)) (h1:0≤t.frm∧t.frm≤t.til∧t.til≤73048) (h2:0≤t.fmt∧t.fmt≤65535)
  (h3:0≤t.qual∧t.qual≤100) (h4:1≤t.data.length∧t.data.length≤1024):validT t=0:=by
 have hm:mostT t.kind=if t.kind=2 then 10 else if t.kind=3 then 2 else 0:=rfl
 have d1:dayOk t.frm=true:=decide_eq_true ⟨h1.1,by omega⟩
 have d2:dayOk t.til=true:=decide_eq_true ⟨by omega,h1.2.2⟩
 unfold validT
 rw [if_neg (by omega)]
 rw [if_neg (by rw [hm];split <;> (try split) <;> omega)]
 rw [if_neg (by rw [d1,d2];simp;omega)]
 rw [if_neg (by omega)]
 rw [if_neg (by omega)]
def TplP (L:List Int) (k:Int) (x:Tpl×Nat):Prop:=validT x.1=0∧x.1.kind=k∧x.2≤L.length
theorem DTemplate_spec (L:List Int) (hL:L.length≤1000000) (a:Nat) (ha:a≤L.length) (k:Int) (hk:1≤k∧k≤3) :
  Spec Tryz.prog 64 [.ptr 0 0,.d (.int .i64 k)] [.row (diceR L a)] (fun r h'=>∃ x,TplP L k x∧r=tAV x.1∧h'=[.row (diceR L x.2)]):=by
 have hN:=fun a ha n h1 hn=>Next_spec L hL a ha n h1 hn
 have hB:=fun a ha=>BytesO_spec L hL a ha 40 (by omega)
 refine qAb hT Tryz.func64 rfl rfl rfl rfl ?_;intro E hE
 refine qAo ?_
 refine ww ?_
 refine qAz (callX rfl rfl (hN a ha 40000 (by omega) (by omega)) [0] (by decide) rfl rfl rfl rfl (fun _=>rfl) (fun _=>rfl) (fun _=>rfl)) rfl ?_
 rintro ⟨frm,a1⟩ ⟨p1,p2,p3⟩
 simp only at p1 p2 p3 ⊢
 refine ww ?_
 refine qAz (callX rfl rfl (hN a1 p3 65536 (by omega) (by omega)) [0] (by decide) rfl rfl rfl rfl (fun _=>rfl) (fun _=>rfl) (fun _=>rfl)) rfl ?_
 rintro ⟨fmt,a2⟩ ⟨q1,q2,q3⟩
 simp only at q1 q2 q3 ⊢
 refine ww ?_
 refine qAz (callX rfl rfl (hN a2 q3 101 (by omega) (by omega)) [0] (by decide) rfl rfl rfl rfl (fun _=>rfl) (fun _=>rfl) (fun _=>rfl)) rfl ?_
 rintro ⟨qual,a3⟩ ⟨r1,r2,r3⟩
 simp only at r1 r2 r3 ⊢
 refine wwn ?_
 have hD:=NextD_spec L hL a3 r3 30000 (by omega) (by omega)
 have hv:=nxV_range (L:=L) (a:=a3) (n:=30000) (by omega)
 have hA:=nxA_le r3
 generalize nxV L a3 30000=dl at hD hv
 generalize nxA L a3=a4 at hD hA
 have hw1:IntKind.i64.wrap (frm+dl)=frm+dl:=qAe (by omega)
 refine qBg (fun i=>bif Nat.beq i 1 then [3] else bif Nat.beq i 3 then [0] else bif Nat.beq i 6 then [3] else []) (fun i=>bif Nat.beq i 3 then [0] else bif Nat.beq i 6 then [3] else []) mixed (by kernel_rfl) ?_
 refine wwg ?_
 refine qAs (v:=.d (.int .i64 dl)) (os:=[.row (diceR L a4)]) (fun k hk1 hk2=>callS1 rfl rfl hD [0] (by decide) (by show [k[0]?]=_;rw [hk2 0 List.mem_cons_self];rfl) rfl rfl rfl rfl rfl rfl) rfl ?_
 refine wwg ?_
 refine ww ?_
 refine qAz (callXv rfl rfl (hB a4 hA) [0,1] (by decide) rfl rfl rfl rfl (fun _=>rfl) (v:=fun x=>.sl 1 (encB x.1) (.right 1)) (fun _=>rfl) (fun _=>rfl)) rfl ?_
 rintro ⟨dat,a5⟩ ⟨s1,s2⟩
 simp only at s1 s2 ⊢
 have hdl:=qAl dat
 refine ww ?_
 refine qAz (callX rfl rfl (hN a5 s2 256 (by omega) (by omega)) [0] (by decide) rfl rfl rfl rfl (fun _=>rfl) (fun _=>rfl) (fun _=>rfl)) rfl ?_
 rintro ⟨x,a6⟩ ⟨t1,t2,t3⟩
 simp only at t1 t2 t3 ⊢
 have hx:=u8_of ⟨t1,t2⟩
 refine ww ?_
 refine qAd (qAk (i:=1) hT rfl rfl rfl rfl rfl rfl (by show ((encB dat).length+1)*(1+1)≤_;first | omega | (simp only [qAl,qAm,List.length_append,List.length_cons,List.length_nil];omega))) rfl ?_
 have hres:encB (dat++[UInt8.ofNat x.toNat])=encB dat++[[Dat.int .u8 (IntKind.u8.wrap x)]]:=by rw [qCj,hx];rfl
 rw [← hres]
 have hel:1≤(dat++[UInt8.ofNat x.toNat]).length∧(dat++[UInt8.ofNat x.toNat]).length≤41:=by simp;omega
 generalize dat++[UInt8.ofNat x.toNat]=da at hel
 refine ww ?_
 refine qAa rfl (fun c1=>?_) (fun c1=>?_)
 ·have c1':k=2:=by simpa using c1
  refine ww ?_
  refine qAz (callX rfl rfl (hN a6 t3 10 (by omega) (by omega)) [0] (by decide) rfl rfl rfl rfl (fun _=>rfl) (fun _=>rfl) (fun _=>rfl)) rfl ?_
  rintro ⟨y,a7⟩ ⟨u1,u2,u3⟩
  simp only at u1 u2 u3 ⊢
  have hw2:IntKind.i64.wrap (1+y)=1+y:=qAe (by omega)
  refine ww ?_
  exact rq ⟨(⟨k,1+y,frm,frm+dl,fmt,qual,da⟩,a7),⟨validT_mk (.inr (.inl ⟨c1',by simp only;omega,by simp only;omega⟩)) ⟨p1,by simp only;omega,by simp only;omega⟩ ⟨q1,by simp only;omega⟩ ⟨r1,by simp only;omega⟩ ⟨hel.1,by simp only;omega⟩,rfl,u3⟩,rfl,rfl⟩ rfl (AV.le.agg ⟨.refl _,.int hw2,.refl _,.int hw1,.refl _,.refl _,.dat,trivial⟩)
 have c1':¬ k=2:=by simpa using c1
 refine ww ?_
 refine qAa rfl (fun c2=>?_) (fun c2=>?_)
 ·have c2':k=3:=by simpa using c2
  refine ww ?_
  refine qAz (callX rfl rfl (hN a6 t3 2 (by omega) (by omega)) [0] (by decide) rfl rfl rfl rfl (fun _=>rfl) (fun _=>rfl) (fun _=>rfl)) rfl ?_
  rintro ⟨y,a7⟩ ⟨u1,u2,u3⟩
  simp only at u1 u2 u3 ⊢
  have hw2:IntKind.i64.wrap (1+y)=1+y:=qAe (by omega)
  refine ww ?_
  exact rq ⟨(⟨k,1+y,frm,frm+dl,fmt,qual,da⟩,a7),⟨validT_mk (.inr (.inr ⟨c2',by simp only;omega,by simp only;omega⟩)) ⟨p1,by simp only;omega,by simp only;omega⟩ ⟨q1,by simp only;omega⟩ ⟨r1,by simp only;omega⟩ ⟨hel.1,by simp only;omega⟩,rfl,u3⟩,rfl,rfl⟩ rfl (AV.le.agg ⟨.refl _,.int hw2,.refl _,.int hw1,.refl _,.refl _,.dat,trivial⟩)
 have c2':¬ k=3:=by simpa using c2
 refine ww ?_
 exact rq ⟨(⟨k,0,frm,frm+dl,fmt,qual,da⟩,a6),⟨validT_mk (.inl ⟨by simp only;omega,rfl⟩) ⟨p1,by simp only;omega,by simp only;omega⟩ ⟨q1,by simp only;omega⟩ ⟨r1,by simp only;omega⟩ ⟨hel.1,by simp only;omega⟩,rfl,t3⟩,rfl,rfl⟩ rfl (AV.le.agg ⟨.refl _,.refl _,.refl _,.int hw1,.refl _,.refl _,.dat,trivial⟩)
def TplsP (L:List Int) (k:Int) (x:List Tpl×Nat):Prop:=(∀ t,t∈x.1→validT t=0∧t.kind=k)∧1≤x.1.length∧x.1.length≤3∧x.2≤L.length
theorem DTemplates_spec (L:List Int) (hL:L.length≤1000000) (a:Nat) (ha:a≤L.length) (k:Int) (hk:1≤k∧k≤3) :
  Spec Tryz.prog 18 [.ptr 0 0,.d (.int .i64 k)] [.row (diceR L a)] (fun r h'=>∃ x,TplsP L k x∧r=.d (.sl 7 (encTs x.1))∧h'=[.row (diceR L x.2)]):=by
 have hN:=Next_spec L hL a ha 3 (by omega) (by omega)
 have hT':=fun a ha=>DTemplate_spec L hL a ha k hk
 refine qAb hT Tryz.func18 rfl rfl rfl rfl ?_;intro E hE
 refine ww ?_
 refine qAz (callX rfl rfl (hN) [0] (by decide) rfl rfl rfl rfl (fun _=>rfl) (fun _=>rfl) (fun _=>rfl)) rfl ?_
 rintro ⟨m,a1⟩ ⟨q1,q2,q3⟩
 simp only at q1 q2 q3 ⊢
 obtain ⟨m,rfl⟩:∃ m':Nat,m=(m':Int):=⟨m.toNat,by omega⟩
 have hw0:IntKind.i64.wrap (1+(m:Int))=((m+1:Nat):Int):=by rw [qAe (by omega)];omega
 refine ww ?_
 refine qAo (qBh 5 7 1 (es:=[]) (.inr ⟨rfl,rfl⟩) rfl ?_)
 refine qAq (ι:=Nat×Nat×List Tpl) (fun x=>[(0,.ptr 0 0),(1,.d (.int .i64 k)),(5,.sl 7 (encTs x.2.2) (.right 1)),(6,.d (.int .i64 (x.2.1:Int)))]) (fun x=>[.row (diceR L x.1),.right 7 (encTs x.2.2).length])
  (fun x=>x.1≤L.length∧(∀ t,t∈x.2.2→validT t=0∧t.kind=k)∧x.2.2.length+x.2.1≤3∧1≤x.2.2.length+x.2.1) (fun x=>x.2.1) (a1,m+1,[]) ⟨q3,(by simp),by simp;omega,by simp⟩ ⟨.refl _,.refl _,.refl _,.int hw0,trivial⟩ (HLe.refl _) ?_
 rintro ⟨b,m,out⟩ ⟨h1,h2,h3,h4⟩
 simp only at h1 h2 h3 h4 ⊢
 have hol:=qDr out
 refine ww ?_
 refine qAa rfl (fun h5=>?_) (fun h5=>?_)
 ·obtain ⟨m,rfl⟩:∃ m',m=m'+1:=⟨m-1,by simp at h5;omega⟩
  have hwm:IntKind.i64.wrap (((m+1:Nat):Int)-1)=(m:Int):=by rw [qAe (by omega)];omega
  refine ww ?_
  refine qAz (callX rfl rfl (hT' b h1) [0] (by decide) rfl rfl rfl rfl (fun _=>rfl) (fun _=>rfl) (fun _=>rfl)) rfl ?_
  rintro ⟨t,b2⟩ ⟨r1,r2,r3⟩
  simp only at r1 r2 r3 ⊢
  unfold tAV tCells
  refine ww ?_
  refine qAd (qAk (i:=1) hT rfl rfl rfl rfl rfl rfl (by show ((encTs out).length+1)*(72+1)≤_;first | omega | (simp only [qAl,qAm,List.length_append,List.length_cons,List.length_nil];omega))) rfl ?_
  refine ww ?_
  have hres:encTs (out++[t])=encTs out++[encT t]:=by rw [encTs_append];rfl
  refine ⟨(b2,m,out++[t]),⟨r3,fun y hy=>?_,by simp only [List.length_append,List.length_singleton];omega,by simp only [List.length_append,List.length_singleton];omega⟩,by simp only;omega,⟨.refl _,.refl _,AV.le.eq (by rw [hres];rfl),.int hwm,trivial⟩,⟨ObLe.refl _,⟨rfl,by rw [hres];rfl⟩,trivial⟩⟩
  rcases List.mem_append.1 hy with hy | hy
  ·exact h2 y hy
  ·rw [List.mem_singleton.1 hy];exact ⟨r1,r2⟩
 ·have h5':m=0:=by simp at h5;omega
  subst h5'
  refine ww ?_
  exact ret_q ⟨(out,b),⟨h2,by simp only;omega,by simp only;omega,h1⟩,rfl,rfl⟩ rfl .dat rfl rfl rfl rfl
end Tdoc
namespace Tdoc
open Go Go.Proofs
def InfMade (x:Inf):Prop:=(1≤x.ver∧x.ver≤255)∧(((x.proto=2∨x.proto=3)∧(0≤x.par∧x.par≤31)∧x.key=0∧x.kid=0)∨(x.proto=4∧x.par=0∧(0≤x.kid∧x.kid≤119)∧∃ n,x.key=pointG n)∨((x.proto=5∨x.proto=6)∧x.par=0∧x.key=0∧x.kid=0))
def InfB (y x:Inf):Prop:=y.proto < x.proto∨(y.proto=x.proto∧y.kid < x.kid)
def InfsM (l:List Inf):Prop:=(∀ x,x∈l→InfMade x)∧l.Pairwise InfB∧l.length≤7
def DInfsP (L:List Int) (x:List Inf×Nat):Prop:=InfsM x.1∧x.2≤L.length
theorem infs_snoc {l:List Inf} {x:Inf} {P:Inf→Prop} (h1:∀ y,y∈l→InfMade y∧P y) (hp:l.Pairwise InfB) (hb:∀ y,P y→InfB y x) (hx:InfMade x) {R:Inf→Prop} (hR:R x) (hPR:∀ y,P y→R y) :
  (∀ y,y∈l++[x]→InfMade y∧R y)∧(l++[x]).Pairwise InfB:=by
 refine ⟨fun y hy=>?_,?_⟩
 ·rcases List.mem_append.1 hy with hy | hy
  ·exact ⟨(h1 y hy).1,hPR y (h1 y hy).2⟩
  ·rw [List.mem_singleton.1 hy];exact ⟨hx,hR⟩
 ·rw [List.pairwise_append]
  exact ⟨hp,List.pairwise_singleton _ _,fun y hy z hz=>by rw [List.mem_singleton.1 hz];exact hb y (h1 y hy).2⟩
theorem DInfos_spec (L:List Int) (hL:L.length≤1000000) (a:Nat) (ha:a≤L.length) :
  Spec Tryz.prog 20 [.ptr 0 0] [.row (diceR L a)] (fun r h'=>∃ x,DInfsP L x∧r=.d (.sl 5 (encFs x.1))∧h'=[.row (diceR L x.2)]):=by
 have hN:=fun a ha n h1 hn=>Next_spec L hL a ha n h1 hn
 have hO:=fun a ha=>One_spec L hL a ha 2 (by omega) (by omega)
 refine qAb hT Tryz.func20 rfl rfl rfl rfl ?_;intro E hE
 refine qAo ?_
 refine wwe ?_
 refine qAu (qAn ?_)
 refine wws ?_
 refine qAu (qAn ?_)
 refine wws ?_
 refine qBh 3 5 1 (es:=[]) (.inr ⟨rfl,rfl⟩) rfl ?_
 refine ww ?_
 refine qBu (ι:=Nat×Nat×List Inf) (fun x=>[(0,.ptr 0 0),(3,.sl 5 (encFs x.2.2) (.right 1)),(4,.d (.int .i64 (x.1:Int)))]) (fun x=>[.row (diceR L x.2.1),.right 5 (encFs x.2.2).length])
  (fun x=>(2≤x.1∧x.1≤7)∧x.2.1≤L.length∧(∀ y,y∈x.2.2→InfMade y∧y.proto < (x.1:Int))∧x.2.2.Pairwise InfB∧x.2.2.length≤x.1-2+(if x.1≤4 then 0 else 2)) (fun x=>7-x.1) (2,a,[]) ⟨by omega,ha,by simp,by simp,by simp⟩ ⟨.refl _,.refl _,.refl _,trivial⟩ (HLe.refl _) ?_
 rintro ⟨p,b,out⟩ ⟨h0,h1,h2,h3,h4⟩
 simp only at h0 h1 h2 h3 h4 ⊢
 have hol:=qDt out
 have ho7:out.length≤7:=by revert h4;split <;> omega
 have hwp:IntKind.i64.wrap ((p:Int)+1)=((p+1:Nat):Int):=by rw [qAe (by omega)];omega
 have hmk:∀ x:Inf,encFs (out++[x])=encFs out++[encF x]:=fun x=>by rw [encFs_append];rfl
 have fin:∀ (b2:Nat) (o2:List Inf) (w:List (List Dat)) (junk:List AObj) (τ:Nat→AV),p≤6→b2≤L.length→(∀ y,y∈o2→InfMade y∧y.proto < ((p+1:Nat):Int))→o2.Pairwise InfB→o2.length≤p-1+(if p≤3 then 0 else 2)→encFs o2=w →
   AV.le (τ 0) (.ptr 0 0)→AV.le (τ 3) (.sl 5 w (.right 1))→AV.le (τ 4) (.d (.int .i64 (IntKind.i64.wrap ((p:Int)+1)))) →
   ∃ (y:Nat×Nat×List Inf) (junk':List AObj),((2≤y.1∧y.1≤7)∧y.2.1≤L.length∧(∀ z,z∈y.2.2→InfMade z∧z.proto < (y.1:Int))∧y.2.2.Pairwise InfB∧y.2.2.length≤y.1-2+(if y.1≤4 then 0 else 2))∧7-y.1 < 7-p∧SubL τ [(0,.ptr 0 0),(3,.sl 5 (encFs y.2.2) (.right 1)),(4,.d (.int .i64 (y.1:Int)))] ∧
    HLe ([.row (diceR L b2),.right 5 w.length]++junk) ([.row (diceR L y.2.1),.right 5 (encFs y.2.2).length]++junk')∧E.below [AObj.row (diceR L y.2.1),.right 5 (encFs y.2.2).length].length∧lowS [AObj.row (diceR L y.2.1),.right 5 (encFs y.2.2).length].length [(0,.ptr 0 0),(3,.sl 5 (encFs y.2.2) (.right 1)),(4,.d (.int .i64 (y.1:Int)))]=true∧lowH [AObj.row (diceR L y.2.1),.right 5 (encFs y.2.2).length].length [AObj.row (diceR L y.2.1),.right 5 (encFs y.2.2).length]=true:=by
  rintro b2 o2 w junk τ g1 g2 g3 g4 g5 rfl g7 g8 g9
  rw [hwp] at g9
  refine ⟨(p+1,b2,o2),junk,⟨by omega,g2,g3,g4,?_⟩,by simp only;omega,⟨g7,g8,g9,trivial⟩,HLe.refl _,Env.below_mono hE (by simp),rfl,rfl⟩
  simp only
  by_cases hp:p≤3
  ·rw [if_pos (by omega)];rw [if_pos hp] at g5;omega
  ·rw [if_neg (by omega)];rw [if_neg hp] at g5;omega
 refine ww ?_
 refine qAa rfl (fun c1=>?_) (fun c1=>?_)
 ·have c1':p≤6:=by simp at c1;omega
  have hlen1:out.length+1≤p-1+(if p≤3 then 0 else 2):=by
   revert h4
   by_cases hp:p≤3
   ·rw [if_pos (by omega),if_pos hp];omega
   ·rw [if_neg hp];split <;> omega
  have hout:∀ y,y∈out→InfMade y∧y.proto < ((p+1:Nat):Int):=fun y hy=>⟨(h2 y hy).1,by have:=(h2 y hy).2;omega⟩
  refine ww ?_
  refine qAz (callX rfl rfl (hO b h1) [0] (by decide) rfl rfl rfl rfl (fun _=>rfl) (fun _=>rfl) (fun _=>rfl)) rfl ?_
  rintro ⟨f,b2⟩ r1
  simp only at r1 ⊢
  refine ww ?_
  refine qAa rfl (fun c2=>?_) (fun c2=>?_)
  ·refine ww ?_
   exact fin b2 out _ [] _ c1' r1 hout h3 (by omega) rfl (.refl _) (.refl _) (.refl _)
  ·refine ww ?_
   refine qAz (callX rfl rfl (hN b2 r1 255 (by omega) (by omega)) [0] (by decide) rfl rfl rfl rfl (fun _=>rfl) (fun _=>rfl) (fun _=>rfl)) rfl ?_
   rintro ⟨v,b3⟩ ⟨q1,q2,q3⟩
   simp only at q1 q2 q3 ⊢
   have hwv:IntKind.i64.wrap (1+v)=1+v:=qAe (by omega)
   have hec:∀ y k d:Int,encF ⟨(p:Int),1+v,y,k,d⟩=[.int .i64 (p:Int),.int .i64 (IntKind.i64.wrap (1+v)),.int .i64 y,.int .i64 k,.int .i64 d]:=fun y k d=>by rw [hwv];rfl
   refine ww ?_
   refine qAa rfl (fun c3=>?_) (fun c3=>?_)
   ·have c3':p=2:=by simp at c3;omega
    refine ww ?_
    refine qAa rfl (fun c4=>?_) (fun c4=>?_)
    ·refine ww ?_
     refine qAz (callX rfl rfl (hN b3 q3 32 (by omega) (by omega)) [0] (by decide) rfl rfl rfl rfl (fun _=>rfl) (fun _=>rfl) (fun _=>rfl)) rfl ?_
     rintro ⟨y,b4⟩ ⟨u1,u2,u3⟩
     simp only at u1 u2 u3 ⊢
     refine ww ?_
     refine qAd (qAk (i:=1) hT rfl rfl rfl rfl rfl rfl (by show ((encFs out).length+1)*(40+1)≤_;first | omega | (simp only [qAl,qAm,List.length_append,List.length_cons,List.length_nil];omega))) rfl ?_
     refine ww ?_
     have hx:=infs_snoc (x:=⟨(p:Int),1+v,y,0,0⟩) (R:=fun z=>z.proto < ((p+1:Nat):Int)) h2 h3 (fun z hz=>.inl hz) ⟨⟨by simp only;omega,by simp only;omega⟩,.inl ⟨by simp only;omega,⟨u1,by simp only;omega⟩,rfl,rfl⟩⟩ (by simp only;omega) (fun z hz=>by omega)
     exact fin b4 (out++[⟨(p:Int),1+v,y,0,0⟩]) _ [_] _ c1' u3 hx.1 hx.2 (by rw [List.length_append];exact hlen1) (by rw [hmk,hec]) (.refl _) (.refl _) (.refl _)
    ·exact absurd c3 (by rw [c4];simp)
   have c3':¬ p=2:=by simp at c3;omega
   refine ww ?_
   refine qAa rfl (fun c4=>?_) (fun c4=>?_)
   ·have c4':p=3:=by simp at c4;omega
    refine ww ?_
    refine qAz (callX rfl rfl (hN b3 q3 32 (by omega) (by omega)) [0] (by decide) rfl rfl rfl rfl (fun _=>rfl) (fun _=>rfl) (fun _=>rfl)) rfl ?_
    rintro ⟨y,b4⟩ ⟨u1,u2,u3⟩
    simp only at u1 u2 u3 ⊢
    refine ww ?_
    refine qAd (qAk (i:=1) hT rfl rfl rfl rfl rfl rfl (by show ((encFs out).length+1)*(40+1)≤_;first | omega | (simp only [qAl,qAm,List.length_append,List.length_cons,List.length_nil];omega))) rfl ?_
    refine ww ?_
    have hx:=infs_snoc (x:=⟨(p:Int),1+v,y,0,0⟩) (R:=fun z=>z.proto < ((p+1:Nat):Int)) h2 h3 (fun z hz=>.inl hz) ⟨⟨by simp only;omega,by simp only;omega⟩,.inl ⟨by simp only;omega,⟨u1,by simp only;omega⟩,rfl,rfl⟩⟩ (by simp only;omega) (fun z hz=>by omega)
    exact fin b4 (out++[⟨(p:Int),1+v,y,0,0⟩]) _ [_] _ c1' u3 hx.1 hx.2 (by rw [List.length_append];exact hlen1) (by rw [hmk,hec]) (.refl _) (.refl _) (.refl _)
   have c4':¬ p=3:=by simp at c4;omega
   refine ww ?_
   refine qAa rfl (fun c5=>?_) (fun c5=>?_)
   ·have c5':p=4:=by simp at c5;omega
    subst c5'
    clear c3 c3' c4 c4' c5
    refine ww ?_
    refine qAz (callX rfl rfl (hN b3 q3 3 (by omega) (by omega)) [0] (by decide) rfl rfl rfl rfl (fun _=>rfl) (fun _=>rfl) (fun _=>rfl)) rfl ?_
    rintro ⟨i0,b4⟩ ⟨u1,u2,u3⟩
    simp only at u1 u2 u3 ⊢
    obtain ⟨i0,rfl⟩:∃ i:Nat,i0=(i:Int):=⟨i0.toNat,by omega⟩
    refine ww ?_
    refine qAq (ι:=Nat×Nat×List Inf×Int×Int) (fun x=>[(0,.ptr 0 0),(3,.sl 5 (encFs x.2.2.1) (.right 1)),(4,.d (.int .i64 ((4:Nat):Int))),(5,.ptr 2 0),(6,.d (.int .i64 (x.1:Int)))])
     (fun x=>[.row (diceR L x.2.1),.right 5 (encFs x.2.2.1).length,.row [.d (.int .i64 ((4:Nat):Int)),.d (.int .i64 (IntKind.i64.wrap (1+v))),.d (.int .i64 0),.d (.int .i64 x.2.2.2.1),.d (.int .i64 x.2.2.2.2)]])
     (fun x=>x.1≤3∧x.2.1≤L.length∧(∀ y,y∈x.2.2.1→InfMade y∧(y.proto < 4∨(y.proto=4∧y.kid < 40*((min x.1 2:Nat):Int))))∧x.2.2.1.Pairwise InfB∧x.2.2.1.length≤2+min x.1 2∧(x.1=3→(∃ n,x.2.2.2.1=pointG n)∧80≤x.2.2.2.2∧x.2.2.2.2≤119))
     (fun x=>3-x.1) (i0,b4,out,0,0) ⟨by simp only;omega,u3,fun y hy=>⟨(h2 y hy).1,.inl (h2 y hy).2⟩,h3,by simp at h4;simp only;omega,fun h=>by simp only at h;omega⟩ ⟨.refl _,.refl _,.refl _,.refl _,.refl _,trivial⟩ (HLe.refl _) ?_
    rintro ⟨i,c,o,key,kid⟩ ⟨g1,g2,g3,g4,g5,g6⟩
    simp only at g1 g2 g3 g4 g5 g6 ⊢
    have hol:=qDt o
    have hmko:∀ x:Inf,encFs (o++[x])=encFs o++[encF x]:=fun x=>by rw [encFs_append];rfl
    have hwi:IntKind.i64.wrap ((i:Int)+1)=((i+1:Nat):Int):=by rw [qAe (by omega)];omega
    refine ww ?_
    refine qAa rfl (fun d1=>?_) (fun d1=>?_)
    ·have d1':i < 3:=by simp at d1;omega
     refine ww ?_
     refine qAz (callX rfl rfl (hN c g2 1073741824 (by omega) (by omega)) [0] (by decide) rfl rfl rfl rfl (fun _=>rfl) (fun _=>rfl) (fun _=>rfl)) rfl ?_
     rintro ⟨m,c2⟩ ⟨v1,v2,v3⟩
     simp only at v1 v2 v3 ⊢
     have hP:=Point_spec m
     refine ww ?_
     refine wwc hP ?_
     refine ww ?_
     refine qAz (callX rfl rfl (hN c2 v3 40 (by omega) (by omega)) [0] (by decide) rfl rfl rfl rfl (fun _=>rfl) (fun _=>rfl) (fun _=>rfl)) rfl ?_
     rintro ⟨k,c3⟩ ⟨w1,w2,w3⟩
     simp only at w1 w2 w3 ⊢
     refine ww ?_
     have hkd:IntKind.i64.wrap (IntKind.i64.wrap (40*(i:Int))+k)=40*(i:Int)+k:=by rw [qAe (n:=40*(i:Int)) (by omega),qAe (by omega)]
     generalize IntKind.i64.wrap (IntKind.i64.wrap (40*(i:Int))+k)=kd at hkd ⊢
     refine qAa rfl (fun d2=>?_) (fun d2=>?_)
     ·have d2':i < 2:=by simp at d2;omega
      refine ww ?_
      refine qAd (qAk (i:=1) hT rfl rfl rfl rfl rfl rfl (by show ((encFs o).length+1)*(40+1)≤_;first | omega | (simp only [qAl,qAm,List.length_append,List.length_cons,List.length_nil];omega))) rfl ?_
      refine ww ?_
      have hx:=infs_snoc (x:=⟨((4:Nat):Int),1+v,0,pointG m,kd⟩) (R:=fun z=>z.proto < 4∨(z.proto=4∧z.kid < 40*((min (i+1) 2:Nat):Int))) g3 g4 (fun z hz=>by rcases hz with hz | hz;exact .inl hz;exact .inr ⟨hz.1,by have:=hz.2;simp only;omega⟩) ⟨⟨by simp only;omega,by simp only;omega⟩,.inr (.inl ⟨rfl,rfl,⟨by simp only;omega,by simp only;omega⟩,m,rfl⟩)⟩ (.inr ⟨rfl,by simp only;omega⟩) (fun z hz=>by rcases hz with hz | hz;exact .inl hz;exact .inr ⟨hz.1,by omega⟩)
      exact ⟨(i+1,c3,o++[⟨((4:Nat):Int),1+v,0,pointG m,kd⟩],pointG m,kd),⟨by simp only;omega,w3,hx.1,hx.2,by simp only [List.length_append,List.length_singleton];omega,fun h=>by simp only at h;omega⟩,by simp only;omega,⟨.refl _,AV.le.eq (by rw [hmko,hec];rfl),.refl _,.refl _,.int hwi,trivial⟩,⟨ObLe.refl _,⟨rfl,by rw [hmko,hec]⟩,ObLe.refl _,trivial⟩⟩
     ·have d2':i=2:=by simp at d2;omega
      subst d2'
      refine ww ?_
      exact ⟨(3,c3,o,pointG m,kd),⟨by simp,w3,g3,g4,g5,fun _=>⟨⟨m,rfl⟩,by simp only;omega,by simp only;omega⟩⟩,by simp,⟨.refl _,.refl _,.refl _,.refl _,.int hwi,trivial⟩,HLe.refl _⟩
    ·have d1':i=3:=by simp at d1;omega
     subst d1'
     obtain ⟨⟨m,rfl⟩,k1,k2⟩:=g6 rfl
     refine ww ?_
     refine qAd (qAk (i:=1) hT rfl rfl rfl rfl rfl rfl (by show ((encFs o).length+1)*(40+1)≤_;first | omega | (simp only [qAl,qAm,List.length_append,List.length_cons,List.length_nil];omega))) rfl ?_
     refine ww ?_
     have hx:=infs_snoc (x:=⟨((4:Nat):Int),1+v,0,pointG m,kid⟩) (R:=fun z=>z.proto < ((4+1:Nat):Int)) g3 g4 (fun z hz=>by rcases hz with hz | hz;exact .inl hz;exact .inr ⟨hz.1,by have:=hz.2;simp only;omega⟩) ⟨⟨by simp only;omega,by simp only;omega⟩,.inr (.inl ⟨rfl,rfl,⟨by simp only;omega,by simp only;omega⟩,m,rfl⟩)⟩ (by simp only;omega) (fun z hz=>by omega)
     exact fin c (o++[⟨((4:Nat):Int),1+v,0,pointG m,kid⟩]) _ [_] _ c1' g2 hx.1 hx.2 (by rw [List.length_append];simp at g5 ⊢;omega) (by rw [hmko,hec]) (.refl _) (.refl _) (.refl _)
   have c5':¬ p=4:=by simp at c5;omega
   refine ww ?_
   refine qAd (qAk (i:=1) hT rfl rfl rfl rfl rfl rfl (by show ((encFs out).length+1)*(40+1)≤_;first | omega | (simp only [qAl,qAm,List.length_append,List.length_cons,List.length_nil];omega))) rfl ?_
   refine ww ?_
   have hx:=infs_snoc (x:=⟨(p:Int),1+v,0,0,0⟩) (R:=fun z=>z.proto < ((p+1:Nat):Int)) h2 h3 (fun z hz=>.inl hz) ⟨⟨by simp only;omega,by simp only;omega⟩,.inr (.inr ⟨by simp only;omega,rfl,rfl,rfl⟩)⟩ (by simp only;omega) (fun z hz=>by omega)
   exact fin b3 (out++[⟨(p:Int),1+v,0,0,0⟩]) _ [_] _ c1' q3 hx.1 hx.2 (by rw [List.length_append];exact hlen1) (by rw [hmk,hec]) (.refl _) (.refl _) (.refl _)
 ·have c1':p=7:=by simp at c1;omega
  subst c1'
  refine ww ?_
  exact ret_q ⟨(out,b),⟨⟨fun x hx=>(h2 x hx).1,h3,ho7⟩,h1⟩,rfl,rfl⟩ rfl .dat rfl rfl rfl rfl
end Tdoc
namespace Tdoc
open Go Go.Proofs
theorem flat_at {sz:Nat}:∀ {es:List (List Dat)} {i j:Nat} {e:List Dat} {d:Dat},(∀ e,e∈es→e.length=sz)→es[i]?=some e→e[j]?=some d→es.flatten[i*sz+j]?=some d
 | [],i,j,e,d,_,h,_=>by simp at h
 | a::l,0,j,e,d,hs,h,h2=>by
  simp at h;subst h
  have hj:=(List.getElem?_eq_some_iff.1 h2).1
  rw [List.flatten_cons,Nat.zero_mul,Nat.zero_add,List.getElem?_append_left hj];exact h2
 | a::l,i+1,j,e,d,hs,h,h2=>by
  have ha:=hs a (by simp)
  have:=flat_at (es:=l) (i:=i) (fun e he=>hs e (by simp [he])) (by simpa using h) h2
  rw [List.flatten_cons,List.getElem?_append_right (by rw [ha,Nat.succ_mul];omega),ha,show (i+1)*sz+j-sz=i*sz+j by rw [Nat.succ_mul];omega]
  exact this
theorem RowDat_flat {sz:Nat} {es:List (List Dat)} (hs:∀ e,e∈es→e.length=sz):RowDat (flatAV es) 0 sz es :=
 ⟨hs,fun i e j d h1 h2=>⟨.d d,by unfold flatAV;rw [Nat.zero_add,List.getElem?_map,flat_at hs h1 h2];rfl,rfl⟩⟩
theorem flatAV_append (a b:List (List Dat)):flatAV (a++b)=flatAV a++flatAV b:=by simp [flatAV]
theorem encDs_size (l:List Det):∀ e,e∈encDs l→e.length=2:=fun e he=>by
 obtain ⟨x,_,rfl⟩:=List.mem_map.1 he;rfl
def dTags (n:Int):List Int:=if n=12 then [24345,24358,24347,24405] else [24334,24336,24337,24386,24338,24339,24340,24341]
theorem dTags_len (n:Int):(dTags n).length≤8:=by unfold dTags;split <;> simp
theorem dTags_nodup (n:Int):(dTags n).Nodup:=by unfold dTags;split <;> decide
def DetM (n:Int) (l:List Det):Prop:=(∀ d,d∈l→d.tag∈dTags n∧SignM 99 d.text)∧(l.map Det.tag).Nodup∧l.length≤8
def DetsP (L:List Int) (n:Int) (x:List Det×Nat):Prop:=DetM n x.1∧x.2≤L.length
theorem DetM.swap {n:Int} {a b:Det} {l:List Det} (h:DetM n (a::b::l)):DetM n (b::a::l):=by
 obtain ⟨h1,h2,h3⟩:=h
 refine ⟨fun d hd=>h1 d (by simp only [List.mem_cons] at hd ⊢;rcases hd with h | h | h <;> simp [h]),?_,by simpa using h3⟩
 simp only [List.map_cons,List.nodup_cons,List.mem_cons,not_or] at h2 ⊢
 exact ⟨⟨fun hh=>h2.1.1 hh.symm,h2.2.1⟩,h2.1.2,h2.2.2⟩
theorem DDetails_spec (L:List Int) (hL:L.length≤1000000) (a:Nat) (ha:a≤L.length) (n:Int) :
  Spec Tryz.prog 19 [.ptr 0 0,.d (.int .i64 n)] [.row (diceR L a)] (fun r h'=>∃ x,DetsP L n x∧r=.d (.sl 2 (encDs x.1))∧h'=[.row (diceR L x.2)]):=by
 have hO:=fun a ha=>One_spec L hL a ha 2 (by omega) (by omega)
 have hS:=fun a ha=>SignsD_spec L hL a ha 99 (by omega) (by omega)
 refine qAb hT Tryz.func19 rfl rfl rfl rfl ?_;intro E hE
 refine qAo ?_
 refine wwe ?_
 refine qAu (qAn ?_)
 refine wws ?_
 refine qAu (qAn ?_)
 refine wws ?_
 refine qBa (ι:=Unit) (fun _=>[(0,.ptr 0 0),(1,.d (.int .i64 n)),(5,.d (.sl 1 (encI (dTags n))))]) (fun _=>[.row (diceR L a),.room]) (fun _=>True) ?_ (fun _ _=>?_)
 ·refine ww ?_
  refine qAa rfl (fun c1=>?_) (fun c1=>?_)
  ·have c1':n=12:=by simpa using c1
   subst c1'
   refine ww ?_
   exact ⟨(),trivial,⟨.refl _,.refl _,.dat,trivial⟩,HLe.refl _⟩
  ·have c1':¬ n=12:=by simpa using c1
   have hd:dTags n=[24334,24336,24337,24386,24338,24339,24340,24341]:=by unfold dTags;rw [if_neg c1']
   rw [hd]
   refine ww ?_
   exact ⟨(),trivial,⟨.refl _,.refl _,.dat,trivial⟩,HLe.refl _⟩
 have hTl:=qDk (dTags n)
 have hT8:=dTags_len n
 refine wwe ?_
 refine qAu (qAn ?_)
 refine wws ?_
 refine AW_bufOf 6 2 1 (.inr rfl) rfl rfl ?_
 refine qBa (ι:=List Det×Nat) (fun x=>[(0,.ptr 0 0),(6,.bm 1 x.1.length)]) (fun x=>[.row (diceR L x.2),.buf 2 x.1.length (flatAV (encDs x.1))]) (fun x=>DetM n x.1∧x.2≤L.length) ?_ ?_
 ·refine ww ?_
  refine qAq (ι:=Nat×Nat×List Det) (fun x=>[(0,.ptr 0 0),(5,.d (.sl 1 (encI (dTags n)))),(6,.bm 1 x.2.2.length),(7,.d (.int .i64 (x.1:Int)))]) (fun x=>[.row (diceR L x.2.1),.buf 2 x.2.2.length (flatAV (encDs x.2.2))])
   (fun x=>x.1≤(dTags n).length∧x.2.1≤L.length∧(x.2.2.map Det.tag).Sublist ((dTags n).take x.1)∧∀ d,d∈x.2.2→SignM 99 d.text) (fun x=>(dTags n).length-x.1) (0,a,[]) ⟨by simp,ha,by simp,by simp⟩ ⟨.refl _,.refl _,.refl _,.refl _,trivial⟩ (HLe.refl _) ?_
  rintro ⟨i,b,out⟩ ⟨h1,h2,h3,h4⟩
  simp only at h1 h2 h3 h4 ⊢
  have hol:out.length≤8:=by have:=h3.length_le;rw [List.length_map,List.length_take] at this;omega
  have hwr:IntKind.i64.wrap ((i:Int)+1)=((i+1:Nat):Int):=by rw [qAe (by omega)];simp
  refine ww ?_
  refine qAa rfl (fun c2=>?_) (fun c2=>?_)
  ·have c2':i < (dTags n).length:=by rw [hTl] at c2;simpa using c2
   have hel:(encI (dTags n))[((i:Int)).toNat]?=some [.int .i64 (dTags n)[i]]:=by simp [encI,c2']
   have htk:(dTags n).take (i+1)=(dTags n).take i++[(dTags n)[i]]:=List.take_succ_eq_append_getElem c2'
   have hskip:(out.map Det.tag).Sublist ((dTags n).take (i+1)):=by rw [htk];exact h3.trans (List.sublist_append_left _ _)
   refine ww ?_
   refine qAz (callX rfl rfl (hO b h2) [0] (by decide) rfl rfl rfl rfl (fun _=>rfl) (fun _=>rfl) (fun _=>rfl)) rfl ?_
   rintro ⟨f,b2⟩ r1
   simp only at r1 ⊢
   refine ww ?_
   refine qAa rfl (fun c3=>?_) (fun c3=>?_)
   ·have hs:=hS b2 r1
    have hso:=signF_ok (L:=L) (n:=99) r1 (by omega)
    generalize (dTags n)[i]=tg at hel htk
    generalize signF L b2 99=q at hs hso
    obtain ⟨s,b3⟩:=q
    simp only at hs hso
    have htake:((out++[(⟨tg,s⟩:Det)]).map Det.tag).Sublist ((dTags n).take (i+1)):=by rw [htk,List.map_append];exact h3.append_right _
    have hsg:∀ d,d∈out++[(⟨tg,s⟩:Det)]→SignM 99 d.text:=fun d hd=>by
     rcases List.mem_append.1 hd with hd | hd
     ·exact h4 d hd
     ·rw [List.mem_singleton.1 hd];exact hso.1
    refine wwn ?_
    refine qBg (fun i=>bif Nat.beq i 6 then [0] else bif Nat.beq i 9 then [1] else []) (fun i=>bif Nat.beq i 6 then [0] else bif Nat.beq i 9 then [1] else []) mixed (by kernel_rfl) ?_
    refine wwg ?_
    refine qCb (qAi hT rfl rfl rfl rfl (by omega) hel) rfl rfl ?_
    refine wwg ?_
    refine qAs (v:=.d (.str s)) (os:=[.row (diceR L b3)]) (fun k hk1 hk2=>callS1 rfl rfl hs [0] (by decide) (by show [k[0]?]=_;rw [hk2 0 List.mem_cons_self];rfl) rfl rfl rfl rfl rfl rfl) rfl ?_
    refine wwg ?_
    refine qAs (os:=[]) (fun k hk1 hk2=>qCz hT rfl rfl) rfl ?_
    refine wwg ?_
    refine qAs (v:=.bm 1 (out.length+1)) (os:=[.buf 2 (out.length+1) (flatAV (encDs out)++flatAV [[.int .i64 tg,.str s]])]) (fun k hk1 hk2=>bufApp_ok (i:=1) (sz:=2) (by_:=24) (n:=out.length) (es2:=[[.int .i64 tg,.str s]]) hT rfl rfl rfl rfl (hk2 1 List.mem_cons_self) rfl (by show (out.length+1)*(24+1)≤_;omega)) rfl ?_
    refine wwg ?_
    refine ww ?_
    have hfl:flatAV (encDs (out++[(⟨tg,s⟩:Det)]))=flatAV (encDs out)++flatAV [[.int .i64 tg,.str s]]:=by rw [encDs_append,flatAV_append];rfl
    refine ⟨(i+1,b3,out++[⟨tg,s⟩]),⟨c2',hso.2,htake,hsg⟩,by simp only;omega,⟨.refl _,.refl _,AV.le.eq (by show AV.bm 1 (out.length+1)=AV.bm 1 (out++[(⟨tg,s⟩:Det)]).length;rw [List.length_append];rfl),.int hwr,trivial⟩,?_⟩
    rw [show (out++[(⟨tg,s⟩:Det)]).length=out.length+1 by simp,hfl]
    exact HLe.refl _
   ·refine ww ?_
    exact ⟨(i+1,b2,out),⟨c2',r1,hskip,h4⟩,by simp only;omega,⟨.refl _,.refl _,.refl _,.int hwr,trivial⟩,HLe.refl _⟩
  ·have c2':i=(dTags n).length:=by rw [hTl] at c2;simp at c2;omega
   subst c2'
   rw [List.take_length] at h3
   refine ww ?_
   exact ⟨(out,b),⟨⟨fun d hd=>⟨h3.subset (List.mem_map_of_mem hd),h4 d hd⟩,(dTags_nodup n).sublist h3,hol⟩,h2⟩,⟨.refl _,.refl _,trivial⟩,HLe.refl _⟩
 rintro ⟨l,b⟩ ⟨hd,hb⟩
 simp only at hd hb ⊢
 have hsz:=encDs_size l
 have hll:=hd.2.2
 refine qBa (ι:=List Det×Nat) (fun x=>[(0,.ptr 0 0),(6,.bm 1 x.1.length)]) (fun x=>[.row (diceR L x.2),.buf 2 x.1.length (flatAV (encDs x.1))]) (fun x=>DetM n x.1∧x.2≤L.length) ?_ ?_
 ·refine ww ?_
  refine AWk_gopX (.d (.bool false)) rfl rfl rfl (fun hg=>⟨by first | exact True.intro | exact ⟨hg,True.intro⟩ | exact ⟨hg,hg,True.intro⟩,callX rfl rfl (hO b hb) [0] (by decide) rfl rfl rfl rfl (fun _=>rfl) (fun _=>rfl) (fun _=>rfl)⟩) ?_ ?_
  ·rintro hg ⟨f,b2⟩ r1
   simp only at r1 ⊢
   have hg':1 < l.length:=by simp [gval] at hg;omega
   refine ww ?_
   refine qAa rfl (fun c4=>?_) (fun c4=>?_)
   ·obtain ⟨d0,d1,r,rfl⟩:∃ d0 d1 r,l=d0::d1::r:=match l,hg' with
     | d0::d1::r,_=>⟨d0,d1,r,rfl⟩
     | [x],h=>by simp at h
     | [],h=>by simp at h
    have hn2:(d0::d1::r).length=r.length+2:=rfl
    refine wwn ?_
    refine qBg (fun i=>bif Nat.beq i 4 then [1] else bif Nat.beq i 7 then [1] else bif Nat.beq i 9 then [1] else bif Nat.beq i 11 then [1] else []) (fun i=>bif Nat.beq i 9 then [1] else bif Nat.beq i 11 then [1] else []) mixed (by kernel_rfl) ?_
    refine wwg ?_
    refine qCb (qBe (sz:=2) hT rfl rfl rfl rfl ⟨by omega,by rw [hn2];omega⟩) rfl rfl ?_
    refine qAs (v:=.agg [.d (.int .i64 d1.tag),.d (.str d1.text)]) (os:=[]) (fun k hk1 hk2=>bufLoadN (ti:=⟨.struct [(0,1,false),(1,1,false)],2,24,[.d (.int .i64 0),.d (.str [])]⟩) hT rfl rfl (hk2 1 List.mem_cons_self) rfl rfl (by simp) (by simp [flatAV,encDs,encD]) rfl) rfl ?_
    refine wwg ?_
    refine qCb (qBe (sz:=2) hT rfl rfl rfl rfl ⟨by omega,by rw [hn2];omega⟩) rfl rfl ?_
    refine qAs (v:=.agg [.d (.int .i64 d0.tag),.d (.str d0.text)]) (os:=[]) (fun k hk1 hk2=>bufLoadN (ti:=⟨.struct [(0,1,false),(1,1,false)],2,24,[.d (.int .i64 0),.d (.str [])]⟩) hT rfl rfl (hk2 1 List.mem_cons_self) rfl rfl (by simp) (by simp [flatAV,encDs,encD]) rfl) rfl ?_
    refine wwg ?_
    refine qCb (qBe (sz:=2) hT rfl rfl rfl rfl ⟨by omega,by rw [hn2];omega⟩) rfl rfl ?_
    refine qAs (v:=.any) (os:=[.buf 2 (d0::d1::r).length (flatAV (encDs (d1::d1::r)))]) (fun k hk1 hk2=>bufStoreN (ti:=⟨.struct [(0,1,false),(1,1,false)],2,24,[.d (.int .i64 0),.d (.str [])]⟩) (cs:=[.d (.int .i64 d1.tag),.d (.str d1.text)]) hT rfl rfl rfl rfl (hk2 1 List.mem_cons_self) rfl rfl (by simp) (by simp [flatAV,encDs,encD]) rfl) rfl ?_
    refine wwg ?_
    refine qCb (qBe (sz:=2) hT rfl rfl rfl rfl ⟨by omega,by rw [hn2];omega⟩) rfl rfl ?_
    refine qAs (v:=.any) (os:=[.buf 2 (d0::d1::r).length (flatAV (encDs (d1::d0::r)))]) (fun k hk1 hk2=>bufStoreN (ti:=⟨.struct [(0,1,false),(1,1,false)],2,24,[.d (.int .i64 0),.d (.str [])]⟩) (cs:=[.d (.int .i64 d0.tag),.d (.str d0.text)]) hT rfl rfl rfl rfl (hk2 1 List.mem_cons_self) rfl rfl (by simp) (by simp [flatAV,encDs,encD]) rfl) rfl ?_
    refine wwg ?_
    refine ww ?_
    exact ⟨(d1::d0::r,b2),⟨hd.swap,r1⟩,⟨.refl _,.refl _,trivial⟩,HLe.refl _⟩
   ·refine ww ?_
    exact ⟨(l,b2),⟨hd,r1⟩,⟨.refl _,.refl _,trivial⟩,HLe.refl _⟩
  ·intro hg
   have hg':¬ 1 < l.length:=by simp [gval] at hg;omega
   refine qCa hT rfl rfl (by intro hh;simp at hh;omega) ?_
   refine ww ?_
   refine qAa rfl (fun c4=>?_) (fun c4=>?_)
   ·exact absurd c4 (by simp)
   ·refine ww ?_
    exact ⟨(l,b),⟨hd,hb⟩,⟨.refl _,.refl _,trivial⟩,HLe.refl _⟩
 rintro ⟨l,b⟩ ⟨hd,hb⟩
 simp only at hd hb ⊢
 refine AW_freezeBuf 6 1 2 (encDs l) rfl rfl (qCn l) (RowDat_flat (encDs_size l)) rfl ?_
 refine ww ?_
 exact ret_q ⟨(l,b),⟨hd,hb⟩,rfl,rfl⟩ rfl .dat rfl rfl rfl rfl
end Tdoc
namespace Tdoc
open Go Go.Proofs
def FileM (b:List UInt8):Prop:=b=[]∨∃ (n:Int) (k:List Node),1≤n∧n≤16∧b=(wrapG n k).1
theorem tag_facts:∀ x,x∈tagTab.take 16→tagOk x=true∧tagCons x=true∧(groupR x).2=0:=by decide
theorem tagR_at {n:Int} (h1:1≤n) (h2:n≤16):(tagR n).2=0∧(tagR n).1∈tagTab.take 16:=by
 unfold tagR
 rw [if_neg (by omega)]
 refine ⟨rfl,?_⟩
 have hl:(n-1).toNat < (tagTab.take 16).length:=by show (n-1).toNat < 16;omega
 have:tagTab[(n-1).toNat]?=some (tagTab.take 16)[(n-1).toNat]:=by
  rw [List.getElem_take,List.getElem?_eq_getElem]
 rw [this]
 exact List.getElem_mem _
theorem encodeP_nil {l:List Node} (h:(encodeP l).1≠[]):(encodeP l).1=wrL l∧(wrL l).length≤4096:=by
 unfold encodeP at h ⊢
 split at h
 ·exact absurd rfl h
 split at h
 ·exact absurd rfl h
 split at h
 ·exact absurd rfl h
 rename_i h1 h2 h3
 rw [if_neg h1,if_neg h2,if_neg h3]
 exact ⟨rfl,by omega⟩
end Tdoc
namespace Tdoc
open Go
theorem group_back {n:Int} (h1:1≤n) (h2:n≤16):(groupR (tagR n).1).1=n:=by
 have:n=1∨n=2∨n=3∨n=4∨n=5∨n=6∨n=7∨n=8∨n=9∨n=10∨n=11∨n=12∨n=13∨n=14∨n=15∨n=16:=by omega
 rcases this with rfl | rfl | rfl | rfl | rfl | rfl | rfl | rfl | rfl | rfl | rfl | rfl | rfl | rfl | rfl | rfl <;> decide
theorem wrap_open {n:Int} {k:List Node} (h1:1≤n) (h2:n≤16) (hc:(chkL 2 k 0).1=0) (hs:sizeL k≤250) (hw:(wrL k).length≤4000):(wrapG n k).2=0∧(wrapG n k).1.length≤4096∧openX (wrapG n k).1=(n,k,0):=by
 obtain ⟨t1,t2⟩:=tagR_at h1 h2
 obtain ⟨t3,t4,t5⟩:=tag_facts _ t2
 have hg:=group_back h1 h2
 have hwr:wrapG n k=encodeP [.mk (tagR n).1 [] k]:=by unfold wrapG;rw [if_neg (by rw [t1];simp)]
 generalize (tagR n).1=t at t2 t3 t4 t5 hwr hg
 have hch:(chkL 1 [.mk t [] k] 0).1=0:=chkL_of fun m hm=>by
  rw [List.mem_singleton.1 hm,chkN,if_neg (by simp [t3]),if_neg (by simp [t4]),if_neg (by omega),chkL_any (1+1) k (0+1) 0]
  exact hc
 have hsz:sizeL [.mk t [] k]≤256:=by simp only [sizeL,sizeN];omega
 have hln:(wrL [.mk t [] k]).length≤4096:=by
  have h3:=qAf t [] k []
  have h4:(wrL ([]:List Node)).length=0:=rfl
  simp only [List.length_nil] at h3
  omega
 have hcnt:=(qDu 1 [.mk t [] k] 0).1
 have he:encodeP [.mk t [] k]=(wrL [.mk t [] k],0):=by
  unfold encodeP
  rw [if_neg (by rw [hch];simp),if_neg (by omega),if_neg (by omega)]
 have hp:=encS_parse (wrL_encS _ _ (Nat.le_refl _) hln) hch hsz hln
 have hpf:=parseX_sub (b:=wrL [.mk t [] k]) (by rw [hp])
 rw [hwr,he]
 refine ⟨rfl,hln,?_⟩
 simp only
 unfold openX
 rw [hpf,hp]
 simp only
 rw [if_neg (by simp),if_neg (by rw [t5];simp),hg]
theorem openZ_of {b:List UInt8} {n lo hi:Int} {k:List Node} (h:openX b=(n,k,0)) (h1:lo≤n) (h2:n≤hi):openZ b lo hi=(n,k,0):=by
 unfold openZ
 rw [h]
 simp only
 rw [if_neg (by simp),if_neg (by omega)]
theorem nbN_one (x:Int) (h0:0≤x) (h1:x < 256):((nbN [bOf x]:Nat):Int)=x:=by
 have:nbN [bOf x]=(bOf x).toNat:=by simp [nbN]
 rw [this];unfold bOf;rw [toNat_ofNat (by omega)];omega
theorem nbN_two (x:Int) (h0:0≤x) (h1:x < 65536):((nbN [bOf (x / 256),bOf x]:Nat):Int)=x:=by
 have:nbN [bOf (x / 256),bOf x]=256*(bOf (x / 256)).toNat+(bOf x).toNat:=by simp [nbN]
 rw [this];unfold bOf;rw [toNat_ofNat (by omega),toNat_ofNat (by omega)];omega
theorem nbN_oct:∀ (m n:Nat),n < 256 ^ m→nbN (octB m n)=n
 | 0,n,h=>by simp at h;subst h;rfl
 | m+1,n,h=>by
  rw [octB,nbN_snoc,nbN_oct m (n / 256) (by rw [Nat.pow_succ] at h;exact Nat.div_lt_of_lt_mul (by rw [Nat.mul_comm];exact h)),toNat_ofNat (Nat.mod_lt _ (by omega))]
  omega
theorem nbN_oct4 (x:Int) (h0:0≤x) (h1:x < 4294967296):((nbN (octB 4 x.toNat):Nat):Int)=x:=by
 rw [nbN_oct 4 _ (by show x.toNat < 4294967296;omega)];omega
theorem decT_back {t:Tpl} (h:validT t=0):decT (objT t)=some t:=by
 have hv:=validT_ok h
 obtain ⟨kind,part,frm,til,fmt,qual,dat⟩:=t
 simp only at hv
 have e1:=nbN_one kind (by omega) (by omega)
 have e2:=nbN_one part (by omega) (by omega)
 have e3:=nbN_oct4 frm (by omega) (by omega)
 have e4:=nbN_oct4 til (by omega) (by omega)
 have e5:=nbN_one qual (by omega) (by omega)
 have e6:=nbN_two fmt (by omega) (by omega)
 have hh:hdrF fldT (headT ⟨kind,part,frm,til,fmt,qual,dat⟩)=some [kind,part,frm,til,qual,fmt]:=by
  simp [headT,fldT,hdrF,primF,qBv,valN,e1,e2,e3,e4,e5,e6]
 unfold decT objT
 rw [if_pos (by simp [consF])]
 simp only [kidN]
 rw [if_pos (by simp [consF,primF,headT]),hh]
 simp [valN]
theorem decL_back:∀ {l:List Tpl},(∀ t,t∈l→validT t=0)→decL (l.map objT)=some l
 | [],_=>rfl
 | t::l,h=>by
  rw [List.map_cons,decL,decT_back (h t (by simp)),decL_back (l:=l) fun x hx=>h x (by simp [hx])]
  rfl
theorem firstT_zero:∀ {l:List Tpl},(∀ t,t∈l→validT t=0)→firstT l=0
 | [],_=>rfl
 | t::l,h=>by
  rw [firstT,if_neg (by rw [h t (by simp)];simp)]
  exact firstT_zero fun x hx=>h x (by simp [hx])
theorem wrObjT (t:Tpl) (r:List Node):(wrL (objT t::r)).length≤130+t.data.length+(wrL r).length:=by
 have h0:(wrL ([]:List Node)).length=0:=rfl
 have a:=qAf 32608 [] [.mk 161 [] (headT t),.mk 24366 t.data []] r
 have b:=qAf 161 [] (headT t) [.mk 24366 t.data []]
 have c:=qAf 24366 t.data [] []
 have d:(wrL (headT t)).length≤86:=by
  unfold headT
  have d1:=qAf 129 [bOf t.kind] [] [.mk 130 [bOf t.part] [],.mk 131 (octB 4 t.frm.toNat) [],.mk 132 (octB 4 t.til.toNat) [],.mk 133 [bOf t.qual] [],.mk 136 [bOf (t.fmt / 256),bOf t.fmt] []]
  have d2:=qAf 130 [bOf t.part] [] [.mk 131 (octB 4 t.frm.toNat) [],.mk 132 (octB 4 t.til.toNat) [],.mk 133 [bOf t.qual] [],.mk 136 [bOf (t.fmt / 256),bOf t.fmt] []]
  have d3:=qAf 131 (octB 4 t.frm.toNat) [] [.mk 132 (octB 4 t.til.toNat) [],.mk 133 [bOf t.qual] [],.mk 136 [bOf (t.fmt / 256),bOf t.fmt] []]
  have d4:=qAf 132 (octB 4 t.til.toNat) [] [.mk 133 [bOf t.qual] [],.mk 136 [bOf (t.fmt / 256),bOf t.fmt] []]
  have d5:=qAf 133 [bOf t.qual] [] [.mk 136 [bOf (t.fmt / 256),bOf t.fmt] []]
  have d6:=qAf 136 [bOf (t.fmt / 256),bOf t.fmt] [] []
  simp only [List.length_cons,List.length_nil,qBv] at d1 d2 d3 d4 d5 d6
  omega
 unfold objT
 simp only [List.length_nil] at a b c
 omega
theorem wrObjTs:∀ {l:List Tpl},(∀ t,t∈l→validT t=0)→(wrL (l.map objT)).length≤l.length*1154
 | [],_=>by show (0:Nat)≤_;omega
 | t::l,h=>by
  have h1:=wrObjT t (l.map objT)
  have h2:=wrObjTs (l:=l) fun x hx=>h x (by simp [hx])
  have h3:=(validT_ok (h t (by simp))).2.2.2.2.2.2.2.2.2.2.2.2.2
  rw [List.map_cons,List.length_cons]
  omega
theorem qDg {d:Nat} {t:Int} {v:List UInt8} (h1:tagOk t=true) (h2:tagCons t=false) (hd:d≤8):(chkN d (.mk t v []) 0).1=0:=by
 rw [chkN,if_neg (by simp [h1]),if_neg (by simp [h2]),if_neg (by omega)];rfl
theorem chkN_cons {d:Nat} {t:Int} {k:List Node} (h1:tagOk t=true) (h2:tagCons t=true) (hd:d≤8) (hk:∀ n,n∈k→(chkN (d+1) n 0).1=0):(chkN d (.mk t [] k) 0).1=0:=by
 rw [chkN,if_neg (by simp [h1]),if_neg (by simp [h2]),if_neg (by omega)];exact chkL_of hk
theorem chk_objT (t:Tpl):(chkN 3 (objT t) 0).1=0:=by
 unfold objT
 refine chkN_cons (by decide) (by decide) (by omega) fun n hn=>?_
 simp only [List.mem_cons,List.not_mem_nil,or_false] at hn
 rcases hn with rfl | rfl
 ·refine chkN_cons (by decide) (by decide) (by omega) fun n hn=>?_
  simp only [headT,List.mem_cons,List.not_mem_nil,or_false] at hn
  rcases hn with rfl | rfl | rfl | rfl | rfl | rfl <;> exact qDg (by decide) (by decide) (by omega)
 ·exact qDg (by decide) (by decide) (by omega)
theorem bio_back {l:List Tpl} (h:∀ t,t∈l→validT t=0∧t.kind=2) (h1:1≤l.length) (h2:l.length≤3):(bioF 3 l).2=0∧bioO (bioF 3 l).1=(3,l,0):=by
 have hv:=fun t ht=>(h t ht).1
 have he:encTR l=([.mk 32609 [] (kidsT l)],0):=by
  unfold encTR
  rw [if_neg (by omega),if_neg (by rw [firstT_zero hv];simp)]
 have hf:fitsT 3 l=true:=by
  unfold fitsT
  rw [List.all_eq_true]
  intro t ht
  simp [(h t ht).2]
 have hb:bioF 3 l=wrapG 3 [.mk 32609 [] (kidsT l)]:=by
  unfold bioF
  rw [he,if_neg (by omega),if_neg (by simp),if_neg (by simp [hf])]
 have hsz:=(objTs_fit (l:=l) fun t ht=>by have:=validT_ok (hv t ht);omega).2
 obtain ⟨w1,w2,w3⟩:=wrap_open (n:=3) (k:=[.mk 32609 [] (kidsT l)]) (by omega) (by omega) (chkL_of fun m hm=>by
  rw [List.mem_singleton.1 hm]
  refine chkN_cons (by decide) (by decide) (by omega) fun n hn=>?_
  unfold kidsT at hn
  rcases List.mem_cons.1 hn with rfl | hn
  ·exact qDg (by decide) (by decide) (by omega)
  ·obtain ⟨t,_,rfl⟩:=List.mem_map.1 hn
   exact chk_objT t) (by simp only [sizeL,sizeN,kidsT,hsz];omega) (by
  have a:=qAf 32609 [] (kidsT l) []
  have b:=qAf 2 [bOf (l.length:Int)] [] (l.map objT)
  have c:=wrObjTs hv
  have h0:(wrL ([]:List Node)).length=0:=rfl
  unfold kidsT at a ⊢
  simp only [List.length_nil,List.length_cons] at a b
  omega)
 have hd:decTs [.mk 32609 [] (kidsT l)]=(l,0):=by
  unfold decTs
  simp only
  rw [if_pos (by simp [consF])]
  simp only [kidN,kidsT]
  have hn:=nbN_one (l.length:Int) (by omega) (by omega)
  rw [if_pos (by simp [primF,valN,hn]),decL_back hv]
  simp only
  rw [he,if_neg (by simp)]
 rw [hb]
 refine ⟨w1,?_⟩
 unfold bioO
 rw [w3]
 simp only
 rw [if_neg (by simp),if_neg (by omega),hd]
 simp only
 rw [if_neg (by simp),if_neg (by simp [hf])]
theorem detG_back:∀ {l:List Det},(∀ d,d∈l→(0≤d.tag∧d.tag < 65536)∧tagCons d.tag=false)→detG (listD l) (kidsD l)=some l
 | [],_=>rfl
 | x::l,h=>by
  obtain ⟨⟨h1,h2⟩,h3⟩:=h x (by simp)
  have ih:=detG_back (l:=l) fun d hd=>h d (by simp [hd])
  have e:=nbN_two x.tag h1 h2
  have hl:listD (x::l)=bOf (x.tag / 256)::bOf x.tag::listD l:=by simp [listD]
  have hk:kidsD (x::l)=.mk x.tag x.text []::kidsD l:=rfl
  rw [hl,hk,detG,e,if_neg (by simp [h3,primF]),ih]
  rfl
theorem detL_zero {n:Int}:∀ {l seen:List Det},(∀ d,d∈l→belongsF n d.tag=true∧1≤d.text.length∧d.text.length≤99)→((seen++l).map Det.tag).Nodup→detL n seen l=0
 | [],_,_,_=>rfl
 | x::l,seen,h,hn=>by
  obtain ⟨h1,h2,h3⟩:=h x (by simp)
  have hx:(seen.any fun y=>decide (y.tag=x.tag))=false:=by
   rw [List.any_eq_false]
   intro y hy
   simp only [decide_eq_true_eq]
   intro he
   rw [List.map_append,List.nodup_append] at hn
   exact hn.2.2 _ (List.mem_map_of_mem hy) _ (List.mem_map_of_mem (List.mem_cons_self)) he
  rw [detL,if_neg (by simp [h1]),if_neg (by simp [hx]),if_neg (by omega)]
  exact detL_zero (fun d hd=>h d (by simp [hd])) (by simpa using hn)
theorem dTags_ok:∀ t,t∈dTags 11→(0≤t∧t < 65536)∧tagCons t=false∧tagOk t=true∧belongsF 11 t=true:=by decide
theorem det_back {l:List Det} (h:DetM 11 l):(detF 11 l).2=0∧detO (detF 11 l).1=(11,l,0):=by
 obtain ⟨h1,h2,h3⟩:=h
 have hz:detL 11 [] l=0:=detL_zero (fun d hd=>⟨(dTags_ok _ (h1 d hd).1).2.2.2,(h1 d hd).2.2.1,(h1 d hd).2.2.2⟩) (by simpa using h2)
 have hb:detF 11 l=wrapG 11 (.mk 92 (listD l) []::kidsD l):=by
  unfold detF
  rw [if_neg (by omega),if_neg (by omega),if_neg (by rw [hz];simp)]
 have hln:=listD_length l
 have hkl:(kidsD l).length=l.length:=by simp [kidsD]
 have hks:sizeL (kidsD l)=l.length:=by
  clear h1 h2 h3 hz hb hln hkl
  induction l with
  | nil=>rfl
  | cons x l ih=>show sizeN _+sizeL (kidsD l)=_;rw [ih];simp [sizeN,sizeL];omega
 obtain ⟨w1,w2,w3⟩:=wrap_open (n:=11) (k:=.mk 92 (listD l) []::kidsD l) (by omega) (by omega) (chkL_of fun m hm=>by
  rcases List.mem_cons.1 hm with rfl | hm
  ·exact qDg (by decide) (by decide) (by omega)
  ·obtain ⟨x,hx,rfl⟩:=List.mem_map.1 hm
   have:=dTags_ok _ (h1 x hx).1
   exact qDg this.2.2.1 this.2.1 (by omega)) (by simp only [sizeL,sizeN,hks];omega) (by
  have a:=qAf 92 (listD l) [] (kidsD l)
  have b:=wrKidsD l fun x hx=>(h1 x hx).2.2.2
  have h0:(wrL ([]:List Node)).length=0:=rfl
  omega)
 have hg:=detG_back (l:=l) fun d hd=>⟨(dTags_ok _ (h1 d hd).1).1,(dTags_ok _ (h1 d hd).1).2.1⟩
 rw [hb]
 refine ⟨w1,?_⟩
 unfold detO
 rw [openZ_of w3 (by omega) (by omega)]
 simp only
 rw [if_neg (by simp)]
 unfold detB
 simp only
 rw [if_pos (by simp [primF,hln,hkl])]
 unfold contD
 simp only [valN]
 rw [hg]
 show finD 11 ([]++l)=_
 rw [List.nil_append]
 unfold finD
 rw [hb,if_neg (by rw [w1];simp)]
end Tdoc
namespace Tdoc
open Go
theorem powX_eq:∀ (m x k out:Nat),k < 2 ^ m→out < pG→powX m x k out=out*x ^ k % pG
 | 0,x,k,out,hk,ho=>by
  have:k=0:=by simpa using hk
  subst this
  rw [powX,Nat.pow_zero,Nat.mul_one,Nat.mod_eq_of_lt ho]
 | m+1,x,k,out,hk,ho=>by
  rw [powX]
  by_cases h0:k=0
  ·subst h0;rw [if_pos rfl,Nat.pow_zero,Nat.mul_one,Nat.mod_eq_of_lt ho]
  ·rw [if_neg h0]
   have hk2:k / 2 < 2 ^ m:=by rw [Nat.pow_succ] at hk;omega
   have hpg:0 < pG:=by decide
   have hsq:(x*x % pG) ^ (k / 2) % pG=x ^ (2*(k / 2)) % pG:=by rw [← Nat.pow_mod,Nat.pow_mul,Nat.pow_two]
   by_cases h1:k % 2=1
   ·rw [if_pos h1,powX_eq m _ _ _ hk2 (Nat.mod_lt _ hpg),Nat.mul_mod,Nat.mod_mod,hsq,← Nat.mul_mod]
    have e:k=2*(k / 2)+1:=by omega
    conv=>rhs;rw [e,Nat.pow_succ]
    rw [Nat.mul_assoc,Nat.mul_comm x,← Nat.mul_assoc,Nat.mul_assoc out,← Nat.mul_assoc]
   ·rw [if_neg h1,powX_eq m _ _ _ hk2 ho,Nat.mul_mod,hsq,← Nat.mul_mod]
    have e:k=2*(k / 2):=by omega
    conv=>rhs;rw [e]
def noDiv (q:Nat):Nat→Bool
 | 0=>true
 | d+1=>(Nat.ble (d+1) 1||!Nat.beq (q % (d+1)) 0)&&noDiv q d
theorem noDiv_at {q:Nat}:∀ {n d:Nat},noDiv q n=true→2≤d→d≤n→q % d≠0
 | 0,d,_,h1,h2=>by omega
 | n+1,d,h,h1,h2=>by
  simp only [noDiv,Bool.and_eq_true,Bool.or_eq_true,Bool.not_eq_true'] at h
  by_cases he:d=n+1
  ·subst he
   rcases h.1 with h3 | h3
   ·have:=Nat.le_of_ble_eq_true h3;omega
   ·exact Nat.ne_of_beq_eq_false h3
  ·exact noDiv_at h.2 h1 (by omega)
theorem qG_noDiv:noDiv qG 32768=true:=by kernel_rfl
theorem qG_coprime {k:Nat} (h1:0 < k) (h2:k < qG):Nat.gcd k qG=1:=by
 have hd:Nat.gcd k qG ∣ qG:=Nat.gcd_dvd_right k qG
 have hk:Nat.gcd k qG≤k:=Nat.gcd_le_left _ h1
 have hp:0 < Nat.gcd k qG:=Nat.gcd_pos_of_pos_left _ h1
 generalize Nat.gcd k qG=g at hd hk hp
 obtain ⟨c,hc⟩:=hd
 by_cases hg:g=1
 ·exact hg
 exfalso
 have hq:qG=1073741789:=rfl
 have hc2:2≤c:=by
  rcases Nat.lt_or_ge c 2 with h | h
  ·have:c=0∨c=1:=by omega
   rcases this with rfl | rfl
   ·omega
   ·omega
  ·exact h
 rcases Nat.lt_or_ge g 32769 with hl | hl
 ·exact noDiv_at qG_noDiv (d:=g) (by omega) (by omega) (by rw [hc];exact Nat.mul_mod_right g c)
 ·rcases Nat.lt_or_ge c 32769 with hm | hm
  ·exact noDiv_at qG_noDiv (d:=c) hc2 (by omega) (by rw [hc];exact Nat.mul_mod_left g c)
  ·have:=Nat.mul_le_mul hl hm
   omega
theorem four_q:4 ^ qG % pG=1:=by
 have h:powX 31 4 qG 1=1:=by kernel_rfl
 rw [powX_eq 31 4 qG 1 (by decide) (by decide),Nat.one_mul] at h
 exact h
theorem pow_one_mul {a k:Nat} (h:a ^ k % pG=1) (m:Nat):a ^ (k*m) % pG=1:=by
 rw [Nat.pow_mul,Nat.pow_mod,h,Nat.one_pow];rfl
theorem pow_one_gcd (a:Nat) (m n:Nat):a ^ m % pG=1→a ^ n % pG=1→a ^ (Nat.gcd m n) % pG=1:=by
 induction m,n using Nat.gcd.induction with
 | H0 n=>intro _ h;simpa using h
 | H1 m n hm ih =>
  intro h1 h2
  rw [Nat.gcd_rec]
  refine ih ?_ h1
  have e:n=m*(n / m)+n % m:=(Nat.div_add_mod n m).symm
  rw [e,Nat.pow_add,Nat.mul_mod,pow_one_mul h1,Nat.one_mul,Nat.mod_mod] at h2
  exact h2
theorem point_elem (n:Int):elemG (pointG n)=true:=by
 have hk:1≤(nearG n).toNat∧(nearG n).toNat < qG:=by
  have hr1:=Int.emod_nonneg n (b:=1073741788) (by omega)
  have hr2:=Int.emod_lt_of_pos n (b:=1073741788) (by omega)
  have hq:qG=1073741789:=rfl
  unfold nearG
  omega
 have hr:=pointG_range n
 have hp:(pointG n).toNat=4 ^ (nearG n).toNat % pG:=by
  unfold pointG
  rw [Int.toNat_natCast,powX_eq 31 _ _ _ (by have:qG < 2 ^ 31:=by decide
                                             omega) (by decide),Nat.one_mul]
 generalize (nearG n).toNat=k at hk hp
 have hone:4 ^ k % pG≠1:=fun h=>by
  have:=pow_one_gcd 4 k qG h four_q
  rw [qG_coprime hk.1 hk.2] at this
  exact absurd this (by decide)
 have hpow:(4 ^ k % pG) ^ qG % pG=1:=by
  rw [← Nat.pow_mod,← Nat.pow_mul,Nat.mul_comm,pow_one_mul four_q]
 have hpos:0 < 4 ^ k % pG:=by
  rcases Nat.eq_zero_or_pos (4 ^ k % pG) with h | h
  ·rw [h,Nat.zero_pow (by decide)] at hpow
   exact absurd hpow (by decide)
  ·exact h
 unfold elemG residG
 rw [hp,powX_eq 30 _ _ _ (by decide) (by decide),Nat.one_mul,hpow]
 have h1:(0:Int) < pointG n:=by omega
 have h2:pointG n≠1:=by omega
 simp [h1,hr.2,h2]
theorem infE_made {x:Inf} (h:InfMade x):infE x=0:=by
 obtain ⟨⟨v1,v2⟩,h⟩:=h
 unfold infE parI kidI
 rcases h with ⟨hp,⟨a1,a2⟩,hk,hd⟩ | ⟨hp,ha,⟨d1,d2⟩,m,hk⟩ | ⟨hp,ha,hk,hd⟩
 ·rw [if_neg (by omega),if_neg (by rw [if_pos hp];split <;> omega),if_neg (by omega)]
 ·have he:=point_elem m
  rw [← hk] at he
  rw [if_neg (by omega),if_neg (by rw [if_neg (by omega),if_pos hp];omega),if_neg (by rw [he];simp;omega)]
 ·rw [if_neg (by omega),if_neg (by rw [if_neg (by omega),if_neg (by omega)];omega),if_neg (by omega)]
theorem infL_made:∀ {l:List Inf} {p:Option Inf},(∀ x,x∈l→InfMade x)→l.Pairwise InfB→(∀ q,p=some q→∀ x,x∈l→InfB q x)→infL p l=0
 | [],p,_,_,_=>infL_nil p
 | x::l,p,h,hw,hp=>by
  rw [List.pairwise_cons] at hw
  rw [infL_cons,if_neg (by rw [infE_made (h x (by simp))];simp),if_neg]
  ·exact infL_made (fun y hy=>h y (by simp [hy])) hw.2 fun q hq y hy=>by cases hq;exact hw.1 y hy
  ·cases p with
   | none=>simp
   | some q =>
    have hb:=hp q rfl x (by simp)
    simp only [infO,decide_eq_true_eq]
    unfold InfB at hb
    omega
theorem protoF_id {p:Int} (h:p=2∨p=3∨p=4∨p=5∨p=6):protoF (idB p)=p:=by
 rcases h with rfl | rfl | rfl | rfl | rfl <;> decide
theorem infX_back {x:Inf} (h:InfMade x):infX (objI x)=some x:=by
 obtain ⟨⟨v1,v2⟩,h⟩:=h
 obtain ⟨proto,ver,par,key,kid⟩:=x
 simp only at v1 v2 h
 have e1:((nbN (valN (Node.mk 2 [bOf ver] [])):Nat):Int)=ver:=nbN_one ver (by omega) (by omega)
 have hl:=idB_len proto
 unfold infX objI
 rw [if_pos (by simp [consF])]
 simp only [kidN,List.cons_append,List.nil_append]
 rw [if_pos (by simp [primF,hl])]
 rcases h with ⟨hp,⟨a1,a2⟩,hk,hd⟩ | ⟨hp,ha,⟨d1,d2⟩,m,hk⟩ | ⟨hp,ha,hk,hd⟩
 ·have hpf:protoF (valN (Node.mk 6 (idB proto) []))=proto:=protoF_id (p:=proto) (by omega)
  have e2:((nbN (valN (Node.mk 2 [bOf par] [])):Nat):Int)=par:=nbN_one par (by omega) (by omega)
  rw [hpf,if_neg (by omega),if_pos hp,if_pos hp]
  simp only
  rw [if_pos (by simp [primF]),e1,e2,hk,hd]
 ·have hpf:protoF (valN (Node.mk 6 (idB proto) []))=proto:=protoF_id (p:=proto) (by omega)
  have hr:=pointG_range m
  have e2:((nbN (valN (Node.mk 4 (octB 4 key.toNat) [])):Nat):Int)=key:=nbN_oct4 key (by omega) (by omega)
  have e3:((nbN (valN (Node.mk 2 [bOf kid] [])):Nat):Int)=kid:=nbN_one kid (by omega) (by omega)
  rw [hpf,if_neg (by omega),if_neg (by omega),if_pos hp,if_neg (by omega),if_pos hp]
  simp only
  rw [if_pos (by simp [primF,qBv]),e1,e2,e3,ha,hp]
 ·have hpf:protoF (valN (Node.mk 6 (idB proto) []))=proto:=protoF_id (p:=proto) (by omega)
  rw [hpf,if_neg (by omega),if_neg (by omega),if_neg (by omega),if_neg (by omega),if_neg (by omega)]
  simp only
  rw [e1,ha,hk,hd]
theorem infXs_back:∀ {l:List Inf},(∀ x,x∈l→InfMade x)→infXs (l.map objI)=some l
 | [],_=>rfl
 | x::l,h=>by
  rw [List.map_cons,infXs,infX_back (h x (by simp)),infXs_back (l:=l) fun y hy=>h y (by simp [hy])]
  rfl
theorem inf_back {l:List Inf} (h:InfsM l):(infosF l).2=0∧infoO (infosF l).1=(l,0):=by
 obtain ⟨h1,h2,h3⟩:=h
 have hv:validI l=0:=by
  unfold validI
  rw [if_neg (by omega)]
  exact infL_made h1 h2 fun q hq=>by cases hq
 obtain ⟨f1,f2⟩:=setI_fit (l:=l) (by omega)
 obtain ⟨w1,w2,w3⟩:=wrap_open (n:=14) (k:=[setI l]) (by omega) (by omega) (by
  refine chkL_of fun m hm=>?_
  rw [List.mem_singleton.1 hm]
  refine chkN_cons (by decide) (by decide) (by omega) fun n hn=>?_
  obtain ⟨x,_,rfl⟩:=List.mem_map.1 hn
  unfold objI
  refine chkN_cons (by decide) (by decide) (by omega) fun n hn=>?_
  split at hn
  ·simp only [List.cons_append,List.nil_append,List.mem_cons,List.not_mem_nil,or_false] at hn
   rcases hn with rfl | rfl | rfl <;> exact qDg (by decide) (by decide) (by omega)
  split at hn
  ·simp only [List.cons_append,List.nil_append,List.mem_cons,List.not_mem_nil,or_false] at hn
   rcases hn with rfl | rfl | rfl | rfl <;> exact qDg (by decide) (by decide) (by omega)
  ·simp only [List.cons_append,List.nil_append,List.append_nil,List.mem_cons,List.not_mem_nil,or_false] at hn
   rcases hn with rfl | rfl <;> exact qDg (by decide) (by decide) (by omega)) (by omega) (by
  have a:=wrObjIs l
  have b:=qAf 49 [] (l.map objI) []
  have h0:(wrL ([]:List Node)).length=0:=rfl
  unfold setI
  simp only [List.length_nil] at b
  omega)
 have hi:infosF l=wrapG 14 [setI l]:=by unfold infosF;rw [if_neg (by rw [hv];simp)]
 obtain ⟨p1,p2,p3⟩:=encI_parse l hv
 have hpp:(parseX (encodeP [setI l]).1 true).2=0:=by
  have hc:=chk_setI l
  have hw:(wrL [setI l]).length≤4096:=by
   have a:=wrObjIs l
   have b:=qAf 49 [] (l.map objI) []
   have h0:(wrL ([]:List Node)).length=0:=rfl
   unfold setI
   simp only [List.length_nil] at b
   omega
  have hcnt:=qDu 1 [setI l] 0
  have he:encodeP [setI l]=(wrL [setI l],0):=by
   unfold encodeP
   rw [if_neg (by rw [hc];simp),if_neg (by omega),if_neg (by omega)]
  rw [he]
  simp only
  rw [encS_parse (wrL_encS _ _ (Nat.le_refl _) hw) hc (by omega) hw]
 rw [hi]
 refine ⟨w1,?_⟩
 unfold infoO
 rw [openZ_of w3 (by omega) (by omega)]
 simp only
 rw [if_neg (by simp)]
 unfold decI
 rw [if_neg (by rw [hpp];simp),p3]
 simp only
 rw [if_pos (by simp [consF,setI])]
 simp only [kidN,setI]
 rw [infXs_back h1]
 simp only
 rw [if_neg (by rw [hv];simp)]
theorem key_back (n:Int):(activeG (pointG n)).2=0∧keyO (activeG (pointG n)).1=(pointG n,0):=by
 have he:=point_elem n
 have hr:=pointG_range n
 have ha:activeG (pointG n)=wrapG 15 [.mk 4 (octB 4 (pointG n).toNat) []]:=by unfold activeG;rw [if_pos he]
 obtain ⟨w1,w2,w3⟩:=wrap_open (n:=15) (k:=[.mk 4 (octB 4 (pointG n).toNat) []]) (by omega) (by omega) (by
  refine chkL_of fun m hm=>?_
  rw [List.mem_singleton.1 hm]
  exact qDg (by decide) (by decide) (by omega)) (by simp [sizeL,sizeN]) (by
  have b:=qAf 4 (octB 4 (pointG n).toNat) [] []
  have h0:(wrL ([]:List Node)).length=0:=rfl
  simp only [qBv] at b
  omega)
 have e2:=nbN_oct4 (pointG n) (by omega) (by omega)
 rw [ha]
 refine ⟨w1,?_⟩
 unfold keyO
 rw [openZ_of w3 (by omega) (by omega)]
 simp only
 rw [if_neg (by simp)]
 unfold keyL
 simp only
 rw [if_pos (by simp [primF])]
 show keyD (octB 4 (pointG n).toNat)=_
 unfold keyD
 rw [if_neg (by simp [qBv]),e2,if_neg (by simp [he])]
end Tdoc
namespace Tdoc
open Go Go.Proofs
def kindT:List (List UInt8):=[[80],[73,68],[86],[65,67]]
def stateT:List (List UInt8):=[[85,84,79],[68],[88,88],[65,66,67]]
def birT:List (List UInt8):=[[60,60,60,60,60,60],[56,53,60,60,60,60],[56,53,49,50,60,60],[60,60,48,49,51,49],[48,48,48,50,60,60]]
def sexT:List (List UInt8):=[[77],[70],[60]]
def BirM (s:List UInt8):Prop:=(∃ d,(0≤d∧d≤73048)∧FormatP d s)∨s∈birT
structure ZMade (z:Zon):Prop where
 fmt:1≤z.fmt∧z.fmt≤3
 kind:z.kind∈kindT
 state:z.state∈stateT
 nat:z.nat∈stateT
 sur:NameM 2 z.sur∧z.sur≠[]
 giv:NameM 3 z.giv
 num:SignM (mostN z.fmt).toNat z.num
 bir:BirM z.bir
 sex:z.sex∈sexT
 exp:∃ d,(36524≤d∧d≤73048)∧FormatP d z.exp
 opt:z.opt=[]∨(0 < roomF z∧SignM (roomF z).toNat z.opt)
 sec:z.sec=[]∨(z.fmt=1∧SignM 11 z.sec)
theorem FormatP.len {d:Int} {s:List UInt8} (h:FormatP d s):s.length=6:=by obtain ⟨x,_,rfl⟩:=h;rfl
theorem BirM.len {s:List UInt8} (h:BirM s):s.length=6:=by
 rcases h with ⟨d,_,h⟩ | h
 ·exact h.len
 ·revert s;decide
theorem mem_at {T:List (List UInt8)} {x:Int} (h1:0≤x) (h2:x < (T.length:Int)):∃ w,(T.map fun s=>[Dat.str s])[x.toNat]?=some [.str w]∧w∈T:=by
 have hl:x.toNat < T.length:=by omega
 exact ⟨T[x.toNat],by simp [hl],List.getElem_mem hl⟩
theorem ZMade.len {z:Zon} (h:ZMade z):zLen z:=by
 have m1:mostN z.fmt≤20:=by unfold mostN;split <;> (try split) <;> omega
 have m2:roomF z≤15:=by unfold roomF;split <;> (try split) <;> (try split) <;> omega
 have k1:∀ s,s∈kindT→s.length≤100:=by decide
 have k2:∀ s,s∈stateT→s.length≤100:=by decide
 have k3:∀ s,s∈sexT→s.length≤100:=by decide
 have a1:=k1 _ h.kind
 have a2:=k2 _ h.state
 have a3:=k2 _ h.nat
 have a4:=h.sur.1.2
 have a5:=h.giv.2
 have a6:=h.num.2.2
 have a7:=h.bir.len
 have a8:=k3 _ h.sex
 obtain ⟨d,_,hd⟩:=h.exp
 have a9:=hd.len
 have a10:z.opt.length≤100:=by
  rcases h.opt with h | ⟨_,h⟩
  ·rw [h];simp
  ·have:=h.2.2;omega
 have a11:z.sec.length≤100:=by
  rcases h.sec with h | ⟨_,h⟩
  ·rw [h];simp
  ·have:=h.2.2;omega
 refine ⟨?_,?_,?_,?_,?_,?_,?_,?_,?_,?_,?_⟩ <;> omega
def DZoneP (L:List Int) (x:Zon×Nat):Prop:=ZMade x.1∧x.2≤L.length
def Z0:List AV:=[.d (.int .i64 0),.d (.str []),.d (.str []),.d (.str []),.d (.str []),.d (.str []),.d (.str []),.d (.str []),.d (.str []),.d (.str []),.d (.str []),.d (.str [])]
theorem DZone_spec (L:List Int) (hL:L.length≤1000000) (a:Nat) (ha:a≤L.length) :
  Spec Tryz.prog 17 [.ptr 0 0] [.row (diceR L a)] (fun r h'=>∃ x,DZoneP L x∧r=zAV x.1∧h'=[.row (diceR L x.2)]):=by
 have hN:=fun a ha n h1 hn=>Next_spec L hL a ha n h1 hn
 have hO:=fun a ha n h1 hn=>One_spec L hL a ha n h1 hn
 have hNm:=fun a ha w hw=>DName_spec L hL a ha w hw
 have hSg:=fun a ha n h1 hn=>DSigns_spec L hL a ha n h1 hn
 have hDy:=fun a ha=>DDay_spec L hL a ha
 refine qAb hT Tryz.func17 rfl rfl rfl rfl ?_;intro E hE
 refine ww ?_
 refine qAz (callX rfl rfl (hN a ha 3 (by omega) (by omega)) [0] (by decide) rfl rfl rfl rfl (fun _=>rfl) (fun _=>rfl) (fun _=>rfl)) rfl ?_
 rintro ⟨f,a1⟩ ⟨p1,p2,p3⟩
 simp only at p1 p2 p3 ⊢
 have hwf:IntKind.i64.wrap (1+f)=1+f:=qAe (by omega)
 refine ww ?_
 refine qAz (callX rfl rfl (hN a1 p3 4 (by omega) (by omega)) [0] (by decide) rfl rfl rfl rfl (fun _=>rfl) (fun _=>rfl) (fun _=>rfl)) rfl ?_
 rintro ⟨k,a2⟩ ⟨q1,q2,q3⟩
 simp only at q1 q2 q3 ⊢
 generalize IntKind.i64.wrap (1+f)=fm at hwf ⊢
 have hfm:1≤fm∧fm≤3:=by omega
 clear hwf p1 p2
 obtain ⟨kind,kat,kme⟩:=mem_at (T:=kindT) q1 q2
 refine ww ?_
 refine wwi kat ?_
 refine ww ?_
 refine qAz (callX rfl rfl (hN a2 q3 4 (by omega) (by omega)) [0] (by decide) rfl rfl rfl rfl (fun _=>rfl) (fun _=>rfl) (fun _=>rfl)) rfl ?_
 rintro ⟨s,a3⟩ ⟨r1,r2,r3⟩
 simp only at r1 r2 r3 ⊢
 obtain ⟨state,sat,sme⟩:=mem_at (T:=stateT) r1 r2
 refine ww ?_
 refine wwi sat ?_
 refine ww ?_
 refine qAz (callX rfl rfl (hN a3 r3 4 (by omega) (by omega)) [0] (by decide) rfl rfl rfl rfl (fun _=>rfl) (fun _=>rfl) (fun _=>rfl)) rfl ?_
 rintro ⟨n,a4⟩ ⟨s1,s2,s3⟩
 simp only at s1 s2 s3 ⊢
 obtain ⟨nat,nat_at,nme⟩:=mem_at (T:=stateT) s1 s2
 refine ww ?_
 refine wwi nat_at ?_
 refine ww ?_
 refine qAz (callX rfl rfl (hNm a4 s3 2 (by omega)) [0] (by decide) rfl rfl rfl rfl (fun _=>rfl) (fun _=>rfl) (fun _=>rfl)) rfl ?_
 rintro ⟨sur0,a5⟩ ⟨t1,t2⟩
 simp only at t1 t2 ⊢
 refine ww ?_
 refine qAz (callX rfl rfl (hNm a5 t2 3 (by omega)) [0] (by decide) rfl rfl rfl rfl (fun _=>rfl) (fun _=>rfl) (fun _=>rfl)) rfl ?_
 rintro ⟨giv,a6⟩ ⟨u1,u2⟩
 simp only at u1 u2 ⊢
 refine wws ?_
 refine qBa (ι:=List UInt8) (fun sur=>[(0,.ptr 0 0),(2,.ptr 1 0),(3,.ptr 2 0)])
  (fun sur=>[.row (diceR L a6),.row Z0,.row [.d (.int .i64 fm),.d (.str kind),.d (.str state),.d (.str sur),.d (.str giv),.d (.str []),.d (.str nat),.d (.str []),.d (.str []),.d (.str []),.d (.str []),.d (.str [])]]) (fun sur=>NameM 2 sur∧sur≠[]) ?_ ?_
 ·refine ww ?_
  refine qAa rfl (fun c1=>?_) (fun c1=>?_)
  ·refine ww ?_
   exact ⟨[79,75],⟨⟨rfl,by simp⟩,by simp⟩,⟨.refl _,.refl _,.refl _,trivial⟩,HLe.refl _⟩
  ·have c1':¬ sur0=[]:=by simpa using c1
   refine ww ?_
   exact ⟨sur0,⟨t1,c1'⟩,⟨.refl _,.refl _,.refl _,trivial⟩,HLe.refl _⟩
 rintro sur ⟨x1,x2⟩
 clear t1
 refine wwe ?_
 refine qAu (qAn ?_)
 refine wws ?_
 refine qBa (ι:=Nat×Nat) (fun x=>[(0,.ptr 0 0),(2,.ptr 1 0),(3,.ptr 2 0),(4,.d (.int .i64 (x.1:Int)))]) (fun x=>[.row (diceR L x.2),.row Z0,.row [.d (.int .i64 fm),.d (.str kind),.d (.str state),.d (.str sur),.d (.str giv),.d (.str []),.d (.str nat),.d (.str []),.d (.str []),.d (.str []),.d (.str []),.d (.str [])]]) (fun x=>(x.1=9∨(x.1=14∧fm=2))∧x.2≤L.length) ?_ ?_
 ·refine ww ?_
  refine AWk_gopX (.d (.bool false)) rfl rfl rfl (fun hg=>⟨by first | exact True.intro | exact ⟨hg,True.intro⟩ | exact ⟨hg,hg,True.intro⟩,callX rfl rfl (hO a6 u2 3 (by omega) (by omega)) [0] (by decide) rfl rfl rfl rfl (fun _=>rfl) (fun _=>rfl) (fun _=>rfl)⟩) ?_ ?_
  ·rintro hg ⟨fl,b⟩ y1
   simp only at y1 ⊢
   have hg':fm=2:=by simp [gval] at hg;omega
   refine ww ?_
   refine qAa rfl (fun c2=>?_) (fun c2=>?_)
   ·refine ww ?_
    exact ⟨(14,b),⟨.inr ⟨rfl,hg'⟩,y1⟩,⟨.refl _,.refl _,.refl _,.refl _,trivial⟩,HLe.refl _⟩
   ·refine ww ?_
    exact ⟨(9,b),⟨.inl rfl,y1⟩,⟨.refl _,.refl _,.refl _,.refl _,trivial⟩,HLe.refl _⟩
  ·intro hg
   refine qCa hT rfl rfl (by intro hh;simp [gval] at hg;simp at hh;omega) ?_
   refine ww ?_
   refine qAa rfl (fun c2=>?_) (fun c2=>?_)
   ·exact absurd c2 (by simp)
   ·refine ww ?_
    exact ⟨(9,a6),⟨.inl rfl,u2⟩,⟨.refl _,.refl _,.refl _,.refl _,trivial⟩,HLe.refl _⟩
 rintro ⟨m1,a7⟩ ⟨v1,v2⟩
 simp only at v1 v2 ⊢
 refine qBa (ι:=Nat×Nat) (fun x=>[(0,.ptr 0 0),(2,.ptr 1 0),(3,.ptr 2 0),(4,.d (.int .i64 (x.1:Int)))]) (fun x=>[.row (diceR L x.2),.row Z0,.row [.d (.int .i64 fm),.d (.str kind),.d (.str state),.d (.str sur),.d (.str giv),.d (.str []),.d (.str nat),.d (.str []),.d (.str []),.d (.str []),.d (.str []),.d (.str [])]]) (fun x=>(9≤x.1∧x.1≤(mostN fm).toNat)∧x.2≤L.length) ?_ ?_
 ·have hm1:9≤m1∧m1≤(mostN fm).toNat:=by unfold mostN;split <;> (try split) <;> omega
  refine ww ?_
  refine AWk_gopX (.d (.bool false)) rfl rfl rfl (fun hg=>⟨by first | exact True.intro | exact ⟨hg,True.intro⟩ | exact ⟨hg,hg,True.intro⟩,callX rfl rfl (hO a7 v2 3 (by omega) (by omega)) [0] (by decide) rfl rfl rfl rfl (fun _=>rfl) (fun _=>rfl) (fun _=>rfl)⟩) ?_ ?_
  ·rintro hg ⟨fl,b⟩ y1
   simp only at y1 ⊢
   have hg':fm=1:=by simp [gval] at hg;omega
   refine ww ?_
   refine qAa rfl (fun c2=>?_) (fun c2=>?_)
   ·refine ww ?_
    exact ⟨(20,b),⟨⟨by simp,by unfold mostN;rw [if_pos hg'];simp⟩,y1⟩,⟨.refl _,.refl _,.refl _,.refl _,trivial⟩,HLe.refl _⟩
   ·refine ww ?_
    exact ⟨(m1,b),⟨hm1,y1⟩,⟨.refl _,.refl _,.refl _,.refl _,trivial⟩,HLe.refl _⟩
  ·intro hg
   refine qCa hT rfl rfl (by intro hh;simp [gval] at hg;simp at hh;omega) ?_
   refine ww ?_
   refine qAa rfl (fun c2=>?_) (fun c2=>?_)
   ·exact absurd c2 (by simp)
   ·refine ww ?_
    exact ⟨(m1,a7),⟨hm1,v2⟩,⟨.refl _,.refl _,.refl _,.refl _,trivial⟩,HLe.refl _⟩
 rintro ⟨m,a8⟩ ⟨w1,w2⟩
 simp only at w1 w2 ⊢
 clear v1 v2
 have hmost:(mostN fm).toNat≤20:=by unfold mostN;split <;> (try split) <;> omega
 refine ww ?_
 refine qAz (callX rfl rfl (hSg a8 w2 m (by omega) (by omega)) [0] (by decide) rfl rfl rfl rfl (fun _=>rfl) (fun _=>rfl) (fun _=>rfl)) rfl ?_
 rintro ⟨num,a9⟩ ⟨y1,y2⟩
 simp only at y1 y2 ⊢
 have hnl:=y1.2.2
 have hnum:SignM (mostN fm).toNat num:=⟨y1.1,y1.2.1,by omega⟩
 refine ww ?_
 refine qAz (callX rfl rfl (hDy a9 y2) [0] (by decide) rfl rfl rfl rfl (fun _=>rfl) (fun _=>rfl) (fun _=>rfl)) rfl ?_
 rintro ⟨day,a10⟩ ⟨z1,z2,z3⟩
 simp only at z1 z2 z3 ⊢
 have hF:=FormatD_spec day ⟨z1,by omega⟩
 refine ww ?_
 refine wwx hF ?_
 rintro bir0 hb0
 refine wws ?_
 refine qAu (qAn ?_)
 refine wws ?_
 refine qBa (ι:=List UInt8×Nat) (fun x=>[(0,.ptr 0 0),(2,.ptr 1 0),(3,.ptr 2 0)])
  (fun x=>[.row (diceR L x.2),.row Z0,.row [.d (.int .i64 fm),.d (.str kind),.d (.str state),.d (.str sur),.d (.str giv),.d (.str num),.d (.str nat),.d (.str x.1),.d (.str []),.d (.str []),.d (.str []),.d (.str [])]]) (fun x=>BirM x.1∧x.2≤L.length) ?_ ?_
 ·refine ww ?_
  refine qAz (callX rfl rfl (hO a10 z3 5 (by omega) (by omega)) [0] (by decide) rfl rfl rfl rfl (fun _=>rfl) (fun _=>rfl) (fun _=>rfl)) rfl ?_
  rintro ⟨fl,b⟩ e1
  simp only at e1 ⊢
  refine ww ?_
  refine qAa rfl (fun c2=>?_) (fun c2=>?_)
  ·refine ww ?_
   refine qAz (callX rfl rfl (hN b e1 5 (by omega) (by omega)) [0] (by decide) rfl rfl rfl rfl (fun _=>rfl) (fun _=>rfl) (fun _=>rfl)) rfl ?_
   rintro ⟨j,b2⟩ ⟨e2,e3,e4⟩
   simp only at e2 e3 e4 ⊢
   obtain ⟨bir,bat,bme⟩:=mem_at (T:=birT) e2 e3
   refine ww ?_
   refine wwi bat ?_
   refine ww ?_
   exact ⟨(bir,b2),⟨.inr bme,e4⟩,⟨.refl _,.refl _,.refl _,trivial⟩,HLe.refl _⟩
  ·refine ww ?_
   exact ⟨(bir0,b),⟨.inl ⟨day,⟨z1,by omega⟩,hb0⟩,e1⟩,⟨.refl _,.refl _,.refl _,trivial⟩,HLe.refl _⟩
 rintro ⟨bir,a11⟩ ⟨b1,b2⟩
 simp only at b1 b2 ⊢
 clear hb0
 refine ww ?_
 refine qAz (callX rfl rfl (hN a11 b2 3 (by omega) (by omega)) [0] (by decide) rfl rfl rfl rfl (fun _=>rfl) (fun _=>rfl) (fun _=>rfl)) rfl ?_
 rintro ⟨j,a12⟩ ⟨e2,e3,e4⟩
 simp only at e2 e3 e4 ⊢
 obtain ⟨sex,sxat,sxme⟩:=mem_at (T:=sexT) e2 e3
 refine ww ?_
 refine wwi sxat ?_
 refine ww ?_
 refine qAz (callX rfl rfl (hN a12 e4 36000 (by omega) (by omega)) [0] (by decide) rfl rfl rfl rfl (fun _=>rfl) (fun _=>rfl) (fun _=>rfl)) rfl ?_
 rintro ⟨dd,a13⟩ ⟨i1,i2,i3⟩
 simp only at i1 i2 i3 ⊢
 have hwd:IntKind.i64.wrap (36524+dd)=36524+dd:=qAe (by omega)
 have hF2:=FormatD_spec (36524+dd) ⟨by omega,by omega⟩
 rw [← hwd] at hF2
 refine ww ?_
 refine wwx hF2 ?_
 rintro exp hex
 rw [hwd] at hex
 refine ww ?_
 have har:([.d (.int .i64 0),.d (.int .i64 15),.d (.int .i64 7),.d (.int .i64 14)]:List AV)[fm.toNat]?=some (.d (.int .i64 (if fm=1 then 15 else if fm=2 then 7 else 14))):=by
  have:fm=1∨fm=2∨fm=3:=by omega
  rcases this with rfl | rfl | rfl <;> rfl
 have hm0:(if fm=1 then 15 else if fm=2 then 7 else 14:Int)≤15:=by split <;> (try split) <;> omega
 have hm1:7≤(if fm=1 then 15 else if fm=2 then 7 else 14:Int):=by split <;> (try split) <;> omega
 generalize hrd:(if fm=1 then 15 else if fm=2 then 7 else 14:Int)=w0 at har hm0 hm1
 refine qAd (qAc (arrIdx_ok hT rfl rfl rfl rfl (by show 0≤fm∧fm < 4;omega) har)) rfl ?_
 refine wws ?_
 generalize hroom:w0-(if num.length > 9 then (num.length:Int)-9+2 else 0)=room
 have hrm : -20≤room∧room≤15:=by rw [← hroom];split <;> omega
 refine qBa (ι:=Unit) (fun _=>[(0,.ptr 0 0),(2,.ptr 1 0),(3,.ptr 2 0),(7,.d (.int .i64 room))])
  (fun x=>[.row (diceR L a13),.row Z0,.row [.d (.int .i64 fm),.d (.str kind),.d (.str state),.d (.str sur),.d (.str giv),.d (.str num),.d (.str nat),.d (.str bir),.d (.str sex),.d (.str exp),.d (.str []),.d (.str [])]]) (fun _=>True) ?_ (fun _ _=>?_)
 ·refine ww ?_
  refine qAa rfl (fun c2=>?_) (fun c2=>?_)
  ·have c2':num.length > 9:=by simp at c2;omega
   rw [if_pos c2'] at hroom
   have hwr:IntKind.i64.wrap (w0-IntKind.i64.wrap ((num.length:Int)-7))=room:=by rw [qAe (n:=(num.length:Int)-7) (by omega),qAe (by omega)];omega
   refine ww ?_
   exact ⟨(),trivial,⟨.refl _,.refl _,.refl _,.int hwr,trivial⟩,HLe.refl _⟩
  ·have c2':¬ num.length > 9:=by simp at c2;omega
   rw [if_neg c2'] at hroom
   have hwr:w0=room:=by omega
   refine ww ?_
   exact ⟨(),trivial,⟨.refl _,.refl _,.refl _,.int hwr,trivial⟩,HLe.refl _⟩
 refine qBa (ι:=List UInt8×Nat) (fun x=>[(0,.ptr 0 0),(2,.ptr 1 0),(3,.ptr 2 0)])
  (fun x=>[.row (diceR L x.2),.row Z0,.row [.d (.int .i64 fm),.d (.str kind),.d (.str state),.d (.str sur),.d (.str giv),.d (.str num),.d (.str nat),.d (.str bir),.d (.str sex),.d (.str exp),.d (.str x.1),.d (.str [])]]) (fun x=>(x.1=[]∨(0 < room∧SignM room.toNat x.1))∧x.2≤L.length) ?_ ?_
 ·refine ww ?_
  refine AWk_gopX (.d (.bool false)) rfl rfl rfl (fun hg=>⟨by first | exact True.intro | exact ⟨hg,True.intro⟩ | exact ⟨hg,hg,True.intro⟩,callX rfl rfl (hO a13 i3 2 (by omega) (by omega)) [0] (by decide) rfl rfl rfl rfl (fun _=>rfl) (fun _=>rfl) (fun _=>rfl)⟩) ?_ ?_
  ·rintro hg ⟨fl,b⟩ e1
   simp only at e1 ⊢
   have hg':0 < room:=by simp [gval] at hg;omega
   refine ww ?_
   refine qAa rfl (fun c2=>?_) (fun c2=>?_)
   ·have hsg:=hSg b e1 room.toNat (by omega) (by omega)
    rw [Int.toNat_of_nonneg (by omega)] at hsg
    refine ww ?_
    refine qAz (callX rfl rfl (hsg) [0] (by decide) rfl rfl rfl rfl (fun _=>rfl) (fun _=>rfl) (fun _=>rfl)) rfl ?_
    rintro ⟨opt,b2⟩ ⟨e2,e3⟩
    simp only at e2 e3 ⊢
    refine ww ?_
    exact ⟨(opt,b2),⟨.inr ⟨hg',e2⟩,e3⟩,⟨.refl _,.refl _,.refl _,trivial⟩,HLe.refl _⟩
   ·refine ww ?_
    exact ⟨([],b),⟨.inl rfl,e1⟩,⟨.refl _,.refl _,.refl _,trivial⟩,HLe.refl _⟩
  ·intro hg
   refine qCa hT rfl rfl (by intro hh;simp [gval] at hg;simp at hh;omega) ?_
   refine ww ?_
   refine qAa rfl (fun c2=>?_) (fun c2=>?_)
   ·exact absurd c2 (by simp)
   ·refine ww ?_
    exact ⟨([],a13),⟨.inl rfl,i3⟩,⟨.refl _,.refl _,.refl _,trivial⟩,HLe.refl _⟩
 rintro ⟨opt,a14⟩ ⟨j1,j2⟩
 simp only at j1 j2 ⊢
 refine qBa (ι:=List UInt8×Nat) (fun x=>[(0,.ptr 0 0),(2,.ptr 1 0),(3,.ptr 2 0)])
  (fun x=>[.row (diceR L x.2),.row Z0,.row [.d (.int .i64 fm),.d (.str kind),.d (.str state),.d (.str sur),.d (.str giv),.d (.str num),.d (.str nat),.d (.str bir),.d (.str sex),.d (.str exp),.d (.str opt),.d (.str x.1)]]) (fun x=>(x.1=[]∨(fm=1∧SignM 11 x.1))∧x.2≤L.length) ?_ ?_
 ·refine ww ?_
  refine AWk_gopX (.d (.bool false)) rfl rfl rfl (fun hg=>⟨by first | exact True.intro | exact ⟨hg,True.intro⟩ | exact ⟨hg,hg,True.intro⟩,callX rfl rfl (hO a14 j2 3 (by omega) (by omega)) [0] (by decide) rfl rfl rfl rfl (fun _=>rfl) (fun _=>rfl) (fun _=>rfl)⟩) ?_ ?_
  ·rintro hg ⟨fl,b⟩ e1
   simp only at e1 ⊢
   have hg':fm=1:=by simp [gval] at hg;omega
   refine ww ?_
   refine qAa rfl (fun c2=>?_) (fun c2=>?_)
   ·refine ww ?_
    refine qAz (callX rfl rfl (hSg b e1 11 (by omega) (by omega)) [0] (by decide) rfl rfl rfl rfl (fun _=>rfl) (fun _=>rfl) (fun _=>rfl)) rfl ?_
    rintro ⟨sec,b2⟩ ⟨e2,e3⟩
    simp only at e2 e3 ⊢
    refine ww ?_
    exact ⟨(sec,b2),⟨.inr ⟨hg',e2⟩,e3⟩,⟨.refl _,.refl _,.refl _,trivial⟩,HLe.refl _⟩
   ·refine ww ?_
    exact ⟨([],b),⟨.inl rfl,e1⟩,⟨.refl _,.refl _,.refl _,trivial⟩,HLe.refl _⟩
  ·intro hg
   refine qCa hT rfl rfl (by intro hh;simp [gval] at hg;simp at hh;omega) ?_
   refine ww ?_
   refine qAa rfl (fun c2=>?_) (fun c2=>?_)
   ·exact absurd c2 (by simp)
   ·refine ww ?_
    exact ⟨([],a14),⟨.inl rfl,j2⟩,⟨.refl _,.refl _,.refl _,trivial⟩,HLe.refl _⟩
 rintro ⟨sec,a15⟩ ⟨k1,k2⟩
 simp only at k1 k2 ⊢
 have hrf:roomF ⟨fm,kind,state,sur,giv,num,nat,bir,sex,exp,opt,sec⟩=room:=by unfold roomF;rw [← hroom,← hrd]
 refine ww ?_
 exact rq ⟨(⟨fm,kind,state,sur,giv,num,nat,bir,sex,exp,opt,sec⟩,a15),⟨⟨hfm,kme,sme,nme,⟨x1,x2⟩,u1,hnum,b1,sxme,⟨_,⟨by omega,by omega⟩,hex⟩,by rw [hrf];exact j1,k1⟩,k2⟩,rfl,rfl⟩ rfl (.refl _)
end Tdoc
namespace Tdoc
open Go
theorem drop_fill (s:List UInt8):∃ k,s=List.replicate k 60++s.dropWhile (· == 60):=by
 induction s with
 | nil=>exact ⟨0,rfl⟩
 | cons c l ih =>
  obtain ⟨k,hk⟩:=ih
  rw [List.dropWhile_cons]
  split
  ·rename_i h
   have:c=60:=by simpa using h
   exact ⟨k+1,by rw [this,List.replicate_succ,List.cons_append,← hk]⟩
  ·exact ⟨0,rfl⟩
theorem trim_split (s:List UInt8):∃ k,s=trimF s++List.replicate k 60:=by
 obtain ⟨k,hk⟩:=drop_fill s.reverse
 refine ⟨k,?_⟩
 have h:=congrArg List.reverse hk
 rw [List.reverse_reverse,List.reverse_append,List.reverse_replicate] at h
 exact h
theorem trimF_lx (s:List UInt8):(trimF s).length≤s.length:=by
 obtain ⟨k,hk⟩:=trim_split s
 have:=congrArg List.length hk
 rw [List.length_append] at this
 omega
theorem qCc {s:List UInt8} {n:Nat} (h:s.length=n):wideS (trimF s) n=s:=by
 obtain ⟨k,hk⟩:=trim_split s
 have hl:=congrArg List.length hk
 rw [List.length_append,List.length_replicate] at hl
 unfold wideS
 rw [show n-(trimF s).length=k by omega]
 exact hk.symm
theorem wide_app (p s:List UInt8) {n:Nat} (h:p.length+s.length=n):wideS (p++trimF s) n=p++s:=by
 have e:=qCc (s:=s) rfl
 unfold wideS at e ⊢
 rw [List.append_assoc,List.length_append,show n-(p.length+(trimF s).length)=s.length-(trimF s).length by omega,e]
theorem cutS_eq (s:List UInt8) (a b:Nat):cutS s a b=(s.drop a).take (b-a):=by unfold cutS;rw [List.drop_take]
theorem qAw (s:List UInt8) {a b c:Nat} (h1:a≤b) (h2:b≤c):cutS s a b++cutS s b c=cutS s a c:=by
 have e:s.drop b=(s.drop a).drop (b-a):=by rw [List.drop_drop];congr 1;omega
 rw [cutS_eq,cutS_eq,cutS_eq,e,← List.take_add,show b-a+(c-b)=c-a by omega]
theorem cutS_all {s:List UInt8} {n:Nat} (h:s.length=n):cutS s 0 n=s:=by unfold cutS;rw [List.take_of_length_le (by omega)];rfl
theorem cutS_cut (s:List UInt8) {a b c:Nat} (h:b≤c):cutS (cutS s 0 c) a b=cutS s a b:=by unfold cutS;rw [List.drop_zero,List.take_take,Nat.min_eq_left h]
theorem cutR_split:∀ (t:List UInt8),(t=(cutR t).1++if (cutR t).2.2=true then 60::60::(cutR t).2.1 else [])∧((cutR t).2.2=false→(cutR t).2.1=[])
 | []=>by simp [cutR]
 | c::l=>by
  rw [cutR]
  split
  ·rename_i h
   obtain ⟨rfl,h⟩:=h
   match l,h with
   | d::m,h =>
    simp only [List.head?_cons,Option.some.injEq] at h
    subst h
    simp
  ·obtain ⟨h1,h2⟩:=cutR_split l
   refine ⟨?_,h2⟩
   show c::l=(c::(cutR l).1)++_
   rw [List.cons_append,← h1]
theorem words_name:∀ (b:Bool) (l:List UInt8),wordsB 60 b l=true→nameL b (spaceF l)=true
 | _,[],_=>by simp [spaceF,nameL]
 | b,c::l,h=>by
  rw [wordsB] at h
  rw [spaceF_cons]
  by_cases hc:c=60
  ·rw [if_pos hc] at h ⊢
   rw [nameL,if_pos rfl]
   simp only [Bool.and_eq_true,Bool.not_eq_true',List.isEmpty_eq_false_iff] at h ⊢
   refine ⟨⟨h.1.1,?_⟩,words_name true l h.2⟩
   intro he
   exact h.1.2 (List.map_eq_nil_iff.1 he)
  ·rw [if_neg hc] at h ⊢
   simp only [Bool.and_eq_true] at h
   have hu:=h.1
   unfold isUp at hu
   have h32:c≠32:=fun e=>by subst e;simp [bI] at hu
   rw [nameL,if_neg h32]
   simp only [Bool.and_eq_true]
   exact ⟨hu,words_name false l h.2⟩
theorem fill_space:∀ {l:List UInt8},(∀ c,c∈l→c≠32)→fillS (spaceF l)=l
 | [],_=>rfl
 | c::l,h=>by
  have h1:=h c (by simp)
  have h2:=fill_space (l:=l) fun x hx=>h x (by simp [hx])
  have e:fillS (spaceF (c::l))=(if (if c=60 then 32 else c)=32 then 60 else (if c=60 then 32 else c))::fillS (spaceF l):=rfl
  rw [e,h2]
  by_cases hc:c=60
  ·simp [hc]
  ·simp [hc,h1]
theorem isFld_ne {s:List UInt8} (h:isFld s=true):∀ c,c∈s→c≠32:=fun c hc e=>by
 subst e
 unfold isFld at h
 rw [List.all_eq_true] at h
 have:=h _ hc
 simp [isUp,bI] at this
theorem names_back {s:List UInt8} {w:Int} (hw:(s.length:Int)=w) (h:(splitR s).2.2=0):namesF (splitR s).1 (splitR s).2.1 w=(s,0):=by
 rw [← split_agree] at h ⊢
 unfold splitP at h ⊢
 by_cases g1:s.length < 1∨s.length > 64
 ·rw [if_pos g1] at h;exact absurd h (by simp)
 rw [if_neg g1] at h ⊢
 by_cases g2:isFld s=false
 ·rw [if_pos g2] at h;exact absurd h (by simp)
 rw [if_neg g2] at h ⊢
 rw [cutR_eq] at h ⊢
 have hE:=trimF_endd (s:=s) (by simpa using g2)
 have hw1:=qCc (s:=s) rfl
 obtain ⟨k1,k2⟩:=cutR_split (trimF s)
 have hne:=isFld_ne hE.2
 generalize trimF s=t at h hE hw1 k1 k2 hne ⊢
 generalize cutR t=c at h k1 k2 ⊢
 obtain ⟨l,r,f⟩:=c
 simp only at h k1 k2 ⊢
 by_cases g3:l=[]∨(f=true∧r=[])∨wordsB 60 true l=false∨wordsB 60 true r=false
 ·rw [if_pos g3] at h;exact absurd h (by simp)
 rw [if_neg g3]
 simp only [not_or,not_and,Bool.not_eq_false] at g3
 obtain ⟨a1,a2,a3,a4⟩:=g3
 have n1:=words_name true l a3
 have n2:=words_name true r a4
 have hl:∀ c,c∈l→c≠32:=fun c hc=>hne c (by rw [k1];simp [hc])
 have hr:∀ c,c∈r→c≠32:=fun c hc=>by
  cases f with
  | true=>exact hne c (by rw [k1];simp [hc])
  | false=>rw [k2 rfl] at hc;cases hc
 have hn:namesS (spaceF l) (spaceF r)=t:=by
  unfold namesS
  rw [fill_space hl,fill_space hr,k1]
  cases f with
  | true =>
   have:spaceF r≠[]:=fun e=>a2 rfl (List.map_eq_nil_iff.1 e)
   rw [if_neg this,if_pos rfl];rfl
  | false =>
   rw [k2 rfl,if_pos (by rfl),if_neg (by simp)]
 have hp0:spaceF l≠[]:=fun e=>a1 (List.map_eq_nil_iff.1 e)
 unfold namesF
 rw [if_neg (by simp [n1,n2,hp0]),if_neg (by omega),hn,show w.toNat=s.length by omega,hw1,List.take_of_length_le (Nat.le_refl _)]
theorem num_back {f:Int} {x:Fl} (hn:(numF f x).2.2=0) (hl:x.num.length=9) (hd:x.dg=[60]∨x.dg=digitS x.num) (hv:validS x.num=true) (ho:validS x.opt=true) :
  (numberS (numF f x).1).1=x.num++x.dg∧wideS ((numberS (numF f x).1).2++(numF f x).2.1) x.opt.length=x.opt:=by
 unfold numF at hn ⊢
 by_cases h1:x.dg≠[60]
 ·rw [if_pos h1]
  have hd:=hd.resolve_left h1
  have ht:=trimF_lx x.num
  unfold numberS
  simp only
  rw [if_pos (by omega)]
  simp only
  refine ⟨?_,?_⟩
  ·unfold checkedS
   rw [qCc hl,qCh hv,hd]
  ·rw [List.nil_append];exact qCc rfl
 rw [if_neg h1] at hn ⊢
 by_cases h2:f=3∨lenTo x.opt < 2∨lenTo x.opt=x.opt.length
 ·rw [if_pos h2] at hn;exact absurd hn (by simp)
 rw [if_neg h2] at hn ⊢
 by_cases h3:[x.opt.getD (lenTo x.opt-1) 0]≠digitS (x.num++x.opt.take (lenTo x.opt-1))
 ·rw [if_pos h3] at hn;exact absurd hn (by simp)
 rw [if_neg h3]
 have h3:=Decidable.of_not_not h3
 have h1:=Decidable.of_not_not h1
 have hle:=lenTo_le x.opt
 have hat:=lenTo_at (s:=x.opt) (by omega)
 generalize hL:lenTo x.opt=L at h2 h3 hle hat ⊢
 have hvn:validS (x.num++x.opt.take (L-1))=true:=validS_mem.2 fun c hc=>by
  rcases List.mem_append.1 hc with hc | hc
  ·exact validS_mem.1 hv c hc
  ·exact validS_mem.1 ho c (List.mem_of_mem_take hc)
 have hlen:(x.num++x.opt.take (L-1)).length=9+(L-1):=by simp [hl];omega
 have t9:(x.num++x.opt.take (L-1)).take 9=x.num:=by rw [← hl,List.take_left]
 have d9:(x.num++x.opt.take (L-1)).drop 9=x.opt.take (L-1):=by rw [← hl,List.drop_left]
 unfold numberS
 simp only
 rw [if_neg (by omega),t9,d9,qCh hvn]
 simp only
 refine ⟨by rw [h1],?_⟩
 rw [← h3]
 have hpre:x.opt.take (L-1)++[x.opt.getD (L-1) 0]++[60]=x.opt.take (L+1):=by
  have e1:x.opt.take (L-1)++[x.opt.getD (L-1) 0]=x.opt.take L:=by
   have:x.opt.getD (L-1) 0=x.opt[L-1]'(by omega):=by simp [show L-1 < x.opt.length by omega]
   have e2:=List.take_succ_eq_append_getElem (l:=x.opt) (i:=L-1) (by omega)
   rw [show L-1+1=L by omega] at e2
   rw [this,e2]
  rw [e1,List.take_succ_eq_append_getElem (by omega)]
  have:x.opt[L]'(by omega)=60:=by
   have:=hat
   rw [List.getElem?_eq_getElem (by omega)] at this
   exact Option.some.inj this
  rw [this]
 rw [hpre,wide_app _ _ (by rw [List.length_take,List.length_drop];omega),List.take_append_drop]
theorem chk_dig {s:List UInt8} (h:validS s=true):checkedS s=s++digitS s:=by unfold checkedS;rw [qCh h]
theorem back_card {a b c:List UInt8} (ha:a.length=30) (hb:b.length=30) (hc:c.length=30) (hv:validS a=true∧validS b=true) (h:(coreZ 1 (fld1 a b c)).2=0):buildF (coreZ 1 (fld1 a b c)).1=([a,b,c],0):=by
 unfold coreZ at h ⊢
 by_cases g1:chkF 1 (fld1 a b c)=false
 ·rw [if_pos g1] at h;exact absurd h (by simp)
 rw [if_neg g1] at h ⊢
 by_cases g2:(numF 1 (fld1 a b c)).2.2≠0
 ·rw [if_pos g2] at h;exact absurd h g2
 rw [if_neg g2] at h ⊢
 by_cases g3:(splitR (fld1 a b c).names).2.2≠0
 ·rw [if_pos g3] at h;exact absurd h g3
 rw [if_neg g3] at h ⊢
 by_cases g4:validZ (finZ 1 (fld1 a b c))≠0
 ·rw [if_pos g4] at h;exact absurd h g4
 rw [if_neg g4]
 have g1:chkF 1 (fld1 a b c)=true:=by simpa using g1
 have g2:=Decidable.of_not_not g2
 have g3:=Decidable.of_not_not g3
 unfold chkF at g1
 simp only [Bool.and_eq_true,decide_eq_true_eq] at g1
 obtain ⟨c1,c2,c3,c4,c5⟩:=g1
 have vo:=fun i j=>qAr i j hv.1
 have vp:=fun i j=>qAr i j hv.2
 obtain ⟨n1,n2⟩:=num_back (f:=1) (x:=fld1 a b c) g2 (by show (cutS a 5 14).length=9;rw [qCe _ _ _ (by omega)]) c1 (vo 5 14) (vo 15 30)
 have hopt:(fld1 a b c).opt.length=15:=by show (cutS a 15 30).length=15;rw [qCe _ _ _ (by omega)]
 rw [hopt] at n2
 have hnm:=names_back (s:=(fld1 a b c).names) (w:=30) (by show (c.length:Int)=30;omega) g3
 unfold buildF
 rw [if_neg g4]
 congr 1
 have e1:wideS (trimF (cutS a 0 2)) 2=cutS a 0 2:=qCc (qCe _ _ _ (by omega))
 have e2:wideS (trimF (cutS a 2 5)) 3=cutS a 2 5:=qCc (qCe _ _ _ (by omega))
 have e3:wideS (trimF (cutS b 15 18)) 3=cutS b 15 18:=qCc (qCe _ _ _ (by omega))
 have e4:wideS (trimF (cutS b 18 29)) 11=cutS b 18 29:=qCc (qCe _ _ _ (by omega))
 have e5:checkedS (cutS b 0 6)=cutS b 0 7:=by rw [chk_dig (vp 0 6),show digitS (cutS b 0 6)=cutS b 6 7 from c2.symm,qAw b (by omega) (by omega)]
 have e6:checkedS (cutS b 8 14)=cutS b 8 15:=by rw [chk_dig (vp 8 14),show digitS (cutS b 8 14)=cutS b 14 15 from c3.symm,qAw b (by omega) (by omega)]
 unfold buildZ
 rw [if_pos (show (finZ 1 (fld1 a b c)).fmt=1 from rfl)]
 have f1:wideS (finZ 1 (fld1 a b c)).kind 2++wideS (finZ 1 (fld1 a b c)).state 3++(numberS (finZ 1 (fld1 a b c)).num).1++wideS ((numberS (finZ 1 (fld1 a b c)).num).2++(finZ 1 (fld1 a b c)).opt) 15=a:=by
  show wideS (trimF (cutS a 0 2)) 2++wideS (trimF (cutS a 2 5)) 3++(numberS (numF 1 (fld1 a b c)).1).1++wideS ((numberS (numF 1 (fld1 a b c)).1).2++(numF 1 (fld1 a b c)).2.1) 15=a
  rw [e1,e2,n1,n2]
  show cutS a 0 2++cutS a 2 5++(cutS a 5 14++cutS a 14 15)++cutS a 15 30=a
  rw [qAw a (by omega) (by omega),qAw a (by omega) (by omega),qAw a (by omega) (by omega),qAw a (by omega) (by omega),cutS_all ha]
 have f2:checkedS (finZ 1 (fld1 a b c)).bir++(finZ 1 (fld1 a b c)).sex++checkedS (finZ 1 (fld1 a b c)).exp++wideS (finZ 1 (fld1 a b c)).nat 3++wideS (finZ 1 (fld1 a b c)).sec 11=cutS b 0 29:=by
  show checkedS (cutS b 0 6)++cutS b 7 8++checkedS (cutS b 8 14)++wideS (trimF (cutS b 15 18)) 3++wideS (trimF (cutS b 18 29)) 11=cutS b 0 29
  rw [e3,e4,e5,e6,qAw b (by omega) (by omega),qAw b (by omega) (by omega),qAw b (by omega) (by omega),qAw b (by omega) (by omega)]
 simp only
 rw [f1,f2,cutS_cut b (by omega),cutS_cut b (by omega),cutS_cut b (by omega)]
 have hall:validS (cutS a 5 30++cutS b 0 7++cutS b 8 15++cutS b 18 29)=true:=validS_mem.2 fun y hy=>by
  simp only [List.mem_append] at hy
  rcases hy with ((hy | hy) | hy) | hy
  ·exact validS_mem.1 (vo 5 30) y hy
  ·exact validS_mem.1 (vp 0 7) y hy
  ·exact validS_mem.1 (vp 8 15) y hy
  ·exact validS_mem.1 (vp 18 29) y hy
 rw [qCh hall]
 have hcp:digitS (cutS a 5 30++cutS b 0 7++cutS b 8 15++cutS b 18 29)=cutS b 29 30:=c5.symm
 rw [hcp,qAw b (by omega) (by omega),cutS_all hb]
 have hnm2:(namesF (finZ 1 (fld1 a b c)).sur (finZ 1 (fld1 a b c)).giv (nameW (finZ 1 (fld1 a b c)).fmt)).1=c:=by
  show (namesF (splitR (fld1 a b c).names).1 (splitR (fld1 a b c).names).2.1 30).1=c
  rw [hnm];rfl
 rw [hnm2]
end Tdoc
namespace Tdoc
open Go
theorem back_small {a b:List UInt8} (ha:a.length=36) (hb:b.length=36) (hv:validS a=true∧validS b=true) (h:(coreZ 2 (fld2 a b)).2=0):buildF (coreZ 2 (fld2 a b)).1=([a,b],0):=by
 unfold coreZ at h ⊢
 by_cases g1:chkF 2 (fld2 a b)=false
 ·rw [if_pos g1] at h;exact absurd h (by simp)
 rw [if_neg g1] at h ⊢
 by_cases g2:(numF 2 (fld2 a b)).2.2≠0
 ·rw [if_pos g2] at h;exact absurd h g2
 rw [if_neg g2] at h ⊢
 by_cases g3:(splitR (fld2 a b).names).2.2≠0
 ·rw [if_pos g3] at h;exact absurd h g3
 rw [if_neg g3] at h ⊢
 by_cases g4:validZ (finZ 2 (fld2 a b))≠0
 ·rw [if_pos g4] at h;exact absurd h g4
 rw [if_neg g4]
 have g1:chkF 2 (fld2 a b)=true:=by simpa using g1
 have g2:=Decidable.of_not_not g2
 have g3:=Decidable.of_not_not g3
 unfold chkF at g1
 simp only [Bool.and_eq_true,decide_eq_true_eq] at g1
 obtain ⟨c1,c2,c3,c4,c5⟩:=g1
 have vo:=fun i j=>qAr i j hv.1
 have vp:=fun i j=>qAr i j hv.2
 obtain ⟨n1,n2⟩:=num_back (f:=2) (x:=fld2 a b) g2 (by show (cutS b 0 9).length=9;rw [qCe _ _ _ (by omega)]) c1 (vp 0 9) (vp 28 35)
 have hopt:(fld2 a b).opt.length=7:=by show (cutS b 28 35).length=7;rw [qCe _ _ _ (by omega)]
 rw [hopt] at n2
 have hnm:=names_back (s:=(fld2 a b).names) (w:=31) (by show ((cutS a 5 36).length:Int)=31;rw [qCe _ _ _ (by omega)];rfl) g3
 unfold buildF
 rw [if_neg g4]
 congr 1
 have e1:wideS (trimF (cutS a 0 2)) 2=cutS a 0 2:=qCc (qCe _ _ _ (by omega))
 have e2:wideS (trimF (cutS a 2 5)) 3=cutS a 2 5:=qCc (qCe _ _ _ (by omega))
 have e3:wideS (trimF (cutS b 10 13)) 3=cutS b 10 13:=qCc (qCe _ _ _ (by omega))
 have e5:checkedS (cutS b 13 19)=cutS b 13 20:=by rw [chk_dig (vp 13 19),show digitS (cutS b 13 19)=cutS b 19 20 from c2.symm,qAw b (by omega) (by omega)]
 have e6:checkedS (cutS b 21 27)=cutS b 21 28:=by rw [chk_dig (vp 21 27),show digitS (cutS b 21 27)=cutS b 27 28 from c3.symm,qAw b (by omega) (by omega)]
 unfold buildZ
 rw [if_neg (show ¬ (finZ 2 (fld2 a b)).fmt=1 by show ¬ (2:Int)=1;omega),if_pos (show (finZ 2 (fld2 a b)).fmt=2 from rfl)]
 have f2:(numberS (finZ 2 (fld2 a b)).num).1++wideS (finZ 2 (fld2 a b)).nat 3++checkedS (finZ 2 (fld2 a b)).bir++(finZ 2 (fld2 a b)).sex++checkedS (finZ 2 (fld2 a b)).exp++wideS ((numberS (finZ 2 (fld2 a b)).num).2++(finZ 2 (fld2 a b)).opt) 7=cutS b 0 35:=by
  show (numberS (numF 2 (fld2 a b)).1).1++wideS (trimF (cutS b 10 13)) 3++checkedS (cutS b 13 19)++cutS b 20 21++checkedS (cutS b 21 27)++wideS ((numberS (numF 2 (fld2 a b)).1).2++(numF 2 (fld2 a b)).2.1) 7=cutS b 0 35
  rw [n1,n2,e3,e5,e6]
  show (cutS b 0 9++cutS b 9 10)++cutS b 10 13++cutS b 13 20++cutS b 20 21++cutS b 21 28++cutS b 28 35=cutS b 0 35
  rw [qAw b (by omega) (by omega),qAw b (by omega) (by omega),qAw b (by omega) (by omega),qAw b (by omega) (by omega),qAw b (by omega) (by omega),qAw b (by omega) (by omega)]
 have f1:wideS (finZ 2 (fld2 a b)).kind 2++wideS (finZ 2 (fld2 a b)).state 3=cutS a 0 5:=by
  show wideS (trimF (cutS a 0 2)) 2++wideS (trimF (cutS a 2 5)) 3=cutS a 0 5
  rw [e1,e2,qAw a (by omega) (by omega)]
 have hnm2:(namesF (finZ 2 (fld2 a b)).sur (finZ 2 (fld2 a b)).giv (nameW (finZ 2 (fld2 a b)).fmt)).1=cutS a 5 36:=by
  show (namesF (splitR (fld2 a b).names).1 (splitR (fld2 a b).names).2.1 31).1=cutS a 5 36
  rw [hnm];rfl
 simp only
 rw [f2,f1,hnm2,cutS_cut b (by omega),cutS_cut b (by omega),cutS_cut b (by omega),qAw a (by omega) (by omega),cutS_all ha]
 have hall:validS (cutS b 0 10++cutS b 13 20++cutS b 21 35)=true:=validS_mem.2 fun y hy=>by
  simp only [List.mem_append] at hy
  rcases hy with (hy | hy) | hy
  ·exact validS_mem.1 (vp 0 10) y hy
  ·exact validS_mem.1 (vp 13 20) y hy
  ·exact validS_mem.1 (vp 21 35) y hy
 rw [qCh hall]
 have hcp:digitS (cutS b 0 10++cutS b 13 20++cutS b 21 35)=cutS b 35 36:=c5.symm
 rw [hcp,qAw b (by omega) (by omega),cutS_all hb]
theorem back_book {a b:List UInt8} (ha:a.length=44) (hb:b.length=44) (hv:validS a=true∧validS b=true) (ho:trimF (cutS b 28 42)=[]→cutS b 42 43=[60]) (h:(coreZ 3 (fld3 a b)).2=0):buildF (coreZ 3 (fld3 a b)).1=([a,b],0):=by
 unfold coreZ at h ⊢
 by_cases g1:chkF 3 (fld3 a b)=false
 ·rw [if_pos g1] at h;exact absurd h (by simp)
 rw [if_neg g1] at h ⊢
 by_cases g2:(numF 3 (fld3 a b)).2.2≠0
 ·rw [if_pos g2] at h;exact absurd h g2
 rw [if_neg g2] at h ⊢
 by_cases g3:(splitR (fld3 a b).names).2.2≠0
 ·rw [if_pos g3] at h;exact absurd h g3
 rw [if_neg g3] at h ⊢
 by_cases g4:validZ (finZ 3 (fld3 a b))≠0
 ·rw [if_pos g4] at h;exact absurd h g4
 rw [if_neg g4]
 have g1:chkF 3 (fld3 a b)=true:=by simpa using g1
 have g2:=Decidable.of_not_not g2
 have g3:=Decidable.of_not_not g3
 unfold chkF at g1
 simp only [Bool.and_eq_true,decide_eq_true_eq] at g1
 obtain ⟨c1,c2,c3,c4,c5⟩:=g1
 have vo:=fun i j=>qAr i j hv.1
 have vp:=fun i j=>qAr i j hv.2
 have hdg:(fld3 a b).dg≠[60]:=fun e=>by
  unfold numF at g2
  rw [if_neg (by simp [e]),if_pos (.inl rfl)] at g2
  exact absurd g2 (by simp)
 have hno:(numF 3 (fld3 a b)).2.1=trimF (fld3 a b).opt:=by unfold numF;rw [if_pos hdg]
 obtain ⟨n1,n2⟩:=num_back (f:=3) (x:=fld3 a b) g2 (by show (cutS b 0 9).length=9;rw [qCe _ _ _ (by omega)]) c1 (vp 0 9) (vp 28 42)
 have hnm:=names_back (s:=(fld3 a b).names) (w:=39) (by show ((cutS a 5 44).length:Int)=39;rw [qCe _ _ _ (by omega)];rfl) g3
 unfold buildF
 rw [if_neg g4]
 congr 1
 have e1:wideS (trimF (cutS a 0 2)) 2=cutS a 0 2:=qCc (qCe _ _ _ (by omega))
 have e2:wideS (trimF (cutS a 2 5)) 3=cutS a 2 5:=qCc (qCe _ _ _ (by omega))
 have e3:wideS (trimF (cutS b 10 13)) 3=cutS b 10 13:=qCc (qCe _ _ _ (by omega))
 have e4:wideS (trimF (cutS b 28 42)) 14=cutS b 28 42:=qCc (qCe _ _ _ (by omega))
 have e5:checkedS (cutS b 13 19)=cutS b 13 20:=by rw [chk_dig (vp 13 19),show digitS (cutS b 13 19)=cutS b 19 20 from c2.symm,qAw b (by omega) (by omega)]
 have e6:checkedS (cutS b 21 27)=cutS b 21 28:=by rw [chk_dig (vp 21 27),show digitS (cutS b 21 27)=cutS b 27 28 from c3.symm,qAw b (by omega) (by omega)]
 have eo:(if trimF (cutS b 28 42)=[] then [60] else (digitF (cutS b 28 42)).1)=cutS b 42 43:=by
  by_cases hz:trimF (cutS b 28 42)=[]
  ·rw [if_pos hz,ho hz]
  ·rw [if_neg hz,qCh (vp 28 42)]
   rcases c4 with c4 | c4 | c4
   ·exact absurd rfl c4
   ·exact c4.symm
   ·exact absurd c4.1 hz
 unfold buildZ
 rw [if_neg (show ¬ (finZ 3 (fld3 a b)).fmt=1 by show ¬ (3:Int)=1;omega),if_neg (show ¬ (finZ 3 (fld3 a b)).fmt=2 by show ¬ (3:Int)=2;omega)]
 have hfo:(finZ 3 (fld3 a b)).opt=trimF (cutS b 28 42):=hno
 have f2:(numberS (finZ 3 (fld3 a b)).num).1++wideS (finZ 3 (fld3 a b)).nat 3++checkedS (finZ 3 (fld3 a b)).bir++(finZ 3 (fld3 a b)).sex++checkedS (finZ 3 (fld3 a b)).exp++cutS b 28 42++cutS b 42 43=cutS b 0 43:=by
  show (numberS (numF 3 (fld3 a b)).1).1++wideS (trimF (cutS b 10 13)) 3++checkedS (cutS b 13 19)++cutS b 20 21++checkedS (cutS b 21 27)++cutS b 28 42++cutS b 42 43=cutS b 0 43
  rw [n1,e3,e5,e6]
  show (cutS b 0 9++cutS b 9 10)++cutS b 10 13++cutS b 13 20++cutS b 20 21++cutS b 21 28++cutS b 28 42++cutS b 42 43=cutS b 0 43
  rw [qAw b (by omega) (by omega),qAw b (by omega) (by omega),qAw b (by omega) (by omega),qAw b (by omega) (by omega),qAw b (by omega) (by omega),qAw b (by omega) (by omega),qAw b (by omega) (by omega)]
 have f1:wideS (finZ 3 (fld3 a b)).kind 2++wideS (finZ 3 (fld3 a b)).state 3=cutS a 0 5:=by
  show wideS (trimF (cutS a 0 2)) 2++wideS (trimF (cutS a 2 5)) 3=cutS a 0 5
  rw [e1,e2,qAw a (by omega) (by omega)]
 have hnm2:(namesF (finZ 3 (fld3 a b)).sur (finZ 3 (fld3 a b)).giv (nameW (finZ 3 (fld3 a b)).fmt)).1=cutS a 5 44:=by
  show (namesF (splitR (fld3 a b).names).1 (splitR (fld3 a b).names).2.1 39).1=cutS a 5 44
  rw [hnm];rfl
 simp only
 rw [hfo,e4,eo,f2,f1,hnm2,cutS_cut b (by omega),cutS_cut b (by omega),cutS_cut b (by omega),qAw a (by omega) (by omega),cutS_all ha]
 have hall:validS (cutS b 0 10++cutS b 13 20++cutS b 21 43)=true:=validS_mem.2 fun y hy=>by
  simp only [List.mem_append] at hy
  rcases hy with (hy | hy) | hy
  ·exact validS_mem.1 (vp 0 10) y hy
  ·exact validS_mem.1 (vp 13 20) y hy
  ·exact validS_mem.1 (vp 21 43) y hy
 rw [qCh hall]
 have hcp:digitS (cutS b 0 10++cutS b 13 20++cutS b 21 43)=cutS b 43 44:=c5.symm
 rw [hcp,qAw b (by omega) (by omega),cutS_all hb]
theorem table_letters:(∀ s,s∈kindT→lettersF s 2=true)∧(∀ s,s∈stateT→lettersF s 3=true)∧(∀ s,s∈birT→birthF s=true)∧(∀ s,s∈sexT→s=[77]∨s=[70]∨s=[60]):=by decide
theorem two_dig {n:Int} (h0:0≤n) (h1:n≤99):(bI (UInt8.ofNat (48+n / 10).toNat)=48+n / 10∧isDig (UInt8.ofNat (48+n / 10).toNat)=true)∧bI (UInt8.ofNat (48+n % 10).toNat)=48+n % 10∧isDig (UInt8.ofNat (48+n % 10).toNat)=true:=by
 have a:bI (UInt8.ofNat (48+n / 10).toNat)=48+n / 10:=by unfold bI;rw [toNat_ofNat (by omega)];omega
 have b:bI (UInt8.ofNat (48+n % 10).toNat)=48+n % 10:=by unfold bI;rw [toNat_ofNat (by omega)];omega
 refine ⟨⟨a,?_⟩,b,?_⟩
 ·unfold isDig;rw [a];simp;omega
 ·unfold isDig;rw [b];simp;omega
theorem pair_two {n:Int} (h0:0≤n) (h1:n≤99):pairF (twoS n)=n:=by
 obtain ⟨⟨a1,a2⟩,b1,b2⟩:=two_dig h0 h1
 unfold pairF twoS
 have hne:([UInt8.ofNat (48+n / 10).toNat,UInt8.ofNat (48+n % 10).toNat]:List UInt8)≠[60,60]:=fun e=>by
  have:=(List.cons.inj e).1
  rw [this] at a1
  simp [bI] at a1
  omega
 rw [if_neg hne,if_pos ⟨by simpa using a2,by simpa using b2⟩]
 unfold pairI
 simp only [List.getD_cons_zero,List.getD_cons_succ]
 rw [a1,b1]
 omega
theorem format_birth {d:Int} {s:List UInt8} (h:FormatP d s):birthF s=true:=by
 obtain ⟨⟨y,m,e⟩,⟨h1,h2,h3,h4,h5,h6,_⟩,rfl⟩:=h
 simp only at h1 h2 h3 h4 h5 h6 ⊢
 have hr:=qCi y m
 have p1:=pair_two (n:=y % 100) (by omega) (by omega)
 have p2:=pair_two (n:=m) (by omega) (by omega)
 have p3:=pair_two (n:=e) (by omega) (by omega)
 have t1:(twoS (y % 100)++twoS m++twoS e).take 2=twoS (y % 100):=rfl
 have t2:((twoS (y % 100)++twoS m++twoS e).take 4).drop 2=twoS m:=rfl
 have t3:(twoS (y % 100)++twoS m++twoS e).drop 4=twoS e:=rfl
 have tl:(twoS (y % 100)++twoS m++twoS e).length=6:=rfl
 unfold birthF
 rw [t1,t2,t3,tl,p1,p2,p3]
 simp
 omega
theorem format_expiry {d:Int} {s:List UInt8} (hd:36524≤d) (h:FormatP d s):(dayParse s 2000).2=0:=by
 obtain ⟨⟨y,m,e⟩,⟨h1,h2,h3,h4,h5,h6,h7⟩,rfl⟩:=h
 simp only at h1 h2 h3 h4 h5 h6 h7 ⊢
 have h7:=h7 hd
 have hr:=qCi y m
 obtain ⟨⟨a1,a2⟩,a3,a4⟩:=two_dig (n:=y % 100) (by omega) (by omega)
 obtain ⟨⟨b1,b2⟩,b3,b4⟩:=two_dig (n:=m) (by omega) (by omega)
 obtain ⟨⟨c1,c2⟩,c3,c4⟩:=two_dig (n:=e) (by omega) (by omega)
 have a5:=a4
 rw [show y % 100 % 10=y % 10 by omega] at a5
 have hdig:(twoS (y % 100)++twoS m++twoS e).all isDig=true:=by simp [twoS,a2,a4,a5,b2,b4,c2,c4]
 have i0:pairI (twoS (y % 100)++twoS m++twoS e) 0=y % 100:=by
  show 10*(bI (UInt8.ofNat (48+y % 100 / 10).toNat)-48)+(bI (UInt8.ofNat (48+y % 100 % 10).toNat)-48)=_
  rw [a1,a3];omega
 have i2:pairI (twoS (y % 100)++twoS m++twoS e) 2=m:=by
  show 10*(bI (UInt8.ofNat (48+m / 10).toNat)-48)+(bI (UInt8.ofNat (48+m % 10).toNat)-48)=_
  rw [b1,b3];omega
 have i4:pairI (twoS (y % 100)++twoS m++twoS e) 4=e:=by
  show 10*(bI (UInt8.ofNat (48+e / 10).toNat)-48)+(bI (UInt8.ofNat (48+e % 10).toNat)-48)=_
  rw [c1,c3];omega
 unfold dayParse
 rw [if_neg (by omega),if_neg (by simp [twoS]),if_neg (by rw [hdig];simp)]
 simp only
 rw [i0,i2,i4]
 have hy:(if (2000:Int)-(2000:Int).tmod 100+y % 100 < 2000 then (2000:Int)-(2000:Int).tmod 100+y % 100+100 else (2000:Int)-(2000:Int).tmod 100+y % 100)=y:=by
  have:(2000:Int).tmod 100=0:=by decide
  rw [this,if_neg (by omega)]
  omega
 rw [hy]
 unfold ofF
 rw [if_neg (by omega)]
theorem plain_extraF {s:List UInt8} (h:plainF s=true):extraF s=true:=by
 have hm:∀ c,c∈s→c≠60:=fun c hc=>by
  unfold plainF at h
  rw [List.all_eq_true] at h
  have:=h c hc
  simp only [decide_eq_true_eq] at this
  exact this.1
 unfold extraF
 rw [plain_valid h,Bool.true_and]
 by_cases h0:s=[]
 ·simp [h0]
 ·have h1:s.head?≠some 60:=fun e=>hm 60 (List.mem_of_mem_head? e) rfl
  have h2:s.getLast?≠some 60:=fun e=>hm 60 (List.mem_of_getLast? e) rfl
  simp [h1,h2]
theorem made_valid {z:Zon} (h:ZMade z):validZ z=0:=by
 obtain ⟨tk,ts,tb,tx⟩:=table_letters
 have k1:=tk _ h.kind
 have k2:=ts _ h.state
 have k3:=ts _ h.nat
 have k4:=tx _ h.sex
 obtain ⟨d,hd,he⟩:=h.exp
 have k5:=format_expiry hd.1 he
 have k6:birthF z.bir=true:=by
  rcases h.bir with ⟨d,_,hb⟩ | hb
  ·exact format_birth hb
  ·exact tb _ hb
 obtain ⟨n1,n2,n3⟩:=h.num
 have hf:=h.fmt
 have hmost:9≤mostN z.fmt:=by unfold mostN;split <;> (try split) <;> omega
 have hlen:(z.num.length:Int)≤mostN z.fmt:=by omega
 have hroom:0≤roomF z:=by
  unfold roomF
  unfold mostN at hlen
  split at hlen
  ·rename_i h1;rw [if_pos h1];split <;> omega
  ·rename_i h1
   rw [if_neg h1]
   split at hlen
   ·rename_i h2;rw [if_pos h2];split <;> omega
   ·rename_i h2;rw [if_neg h2];split <;> omega
 have k7:extraF z.opt=true∧(z.opt.length:Int)≤roomF z:=by
  rcases h.opt with ho | ⟨hr,ho1,ho2,ho3⟩
  ·rw [ho];exact ⟨rfl,by simpa using hroom⟩
  ·exact ⟨plain_extraF ho1,by omega⟩
 have k8:extraF z.sec=true∧z.sec.length≤11∧(z.sec≠[]→z.fmt=1):=by
  rcases h.sec with ho | ⟨hr,ho1,ho2,ho3⟩
  ·rw [ho];exact ⟨rfl,by simp,fun hh=>absurd rfl hh⟩
  ·exact ⟨plain_extraF ho1,ho3,fun _=>hr⟩
 have hnn:z.num≠[]:=fun e=>by rw [e] at n2;simp at n2
 unfold validZ
 rw [if_neg (by simp [k1,k2,h.sur.1.1,h.sur.2,h.giv.1,hnn,n1];omega),if_neg (by omega),if_neg (by simp [k3]),if_neg (by simp [k6]),if_neg (by rcases k4 with k | k | k <;> simp [k]),if_neg (by simp [k5]),
  if_neg (by simp only [k7.1,k8.1];simp;exact fun hh=>k8.2.2 hh),if_neg (by omega)]
end Tdoc
