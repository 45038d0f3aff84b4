/- Part 15 of the proof: the texts SI SJ SL SN. -/
import Derived.Test.YtlfiejdnlcbpgaaGreatDoorCN14
set_option maxHeartbeats 8000000
set_option maxRecDepth 100000
set_option linter.unusedVariables false
set_option linter.unusedSimpArgs false
namespace Tdoc
open Go Go.Proofs
theorem readO_of {x:Akt} {s:List UInt8} (h:LineOk x) (hs:joi 32 (qBw x)=s) (hne:s≠[]):readO s=(x,0):=by
 have hl:lineK x=s:=by unfold lineK;rw [if_pos h];exact hs
 have hr:qDk s=x:=by rw [← hs];exact qPj h
 unfold readO
 rw [hr,if_pos ⟨hne,hl⟩]
theorem wordP_dec {s:List UInt8} (h:(decide (s.length≤40)&&decide (s≠[32])&&s.all fun c=>decide (32≤c.toNat∧c.toNat≤126∧c≠95))=true):qRq s:=by
 rw [Bool.and_eq_true,Bool.and_eq_true,List.all_eq_true] at h
 exact ⟨of_decide_eq_true h.1.1,of_decide_eq_true h.1.2,fun c hc=>of_decide_eq_true (h.2 c hc)⟩
def vBd:List UInt8:=[97,99,99,101,112,116,32,105,102,32,112,97,116,104,59,32,114,101,102,117,115,101,59]
theorem read1:readO [102,111,117,110,100,32,85,84,79,32,115,101,101,100]=((⟨2,0,0,0,[85,84,79],[115,101,101,100],[],[],[],[],[],[],0,[],false,0,0,[],[],[]⟩:Akt),0):=readO_of ⟨by decide,rfl,fun f hf=>by
 have hf:f∈[Fld.txt [85,84,79],Fld.txt [115,101,101,100]]:=hf
 simp only [List.mem_cons,List.not_mem_nil,or_false] at hf
 rcases hf with rfl | rfl
 ·exact wordP_dec (by decide)
 ·exact wordP_dec (by decide)⟩ (by rfl) (by decide)
theorem restP_dec {s:List UInt8} (h:(decide (s≠[])&&decide (s.length≤1000)&&decide (s.head?≠some 32)&&s.all fun c=>decide (32≤c.toNat∧c.toNat≤126))=true):qSa s:=by
 rw [Bool.and_eq_true,Bool.and_eq_true,Bool.and_eq_true,List.all_eq_true] at h
 exact ⟨of_decide_eq_true h.1.1.1,of_decide_eq_true h.1.1.2,of_decide_eq_true h.1.2,fun c hc=>of_decide_eq_true (h.2 c hc)⟩
theorem read2:readO [112,111,115,116,32,112,32,97,99,99,101,112,116,32,105,102,32,112,97,116,104,59,32,114,101,102,117,115,101,59]=((⟨11,0,0,0,[112],vBd,[],[],[],[],[],[],0,[],false,0,0,[],[],[]⟩:Akt),0):=readO_of ⟨by decide,rfl,fun f hf=>by
 have hf:f∈[Fld.txt [112],Fld.rst vBd]:=hf
 simp only [List.mem_cons,List.not_mem_nil,or_false] at hf
 rcases hf with rfl | rfl
 ·exact wordP_dec (by decide)
 ·exact restP_dec (by decide)⟩ (by rfl) (by decide)
theorem read3:readO [104,101,108,108,111]=(akt0,77):=readO_0 (by decide)
theorem ito {n:Nat} (h:n < 10):Lib.itoa (n:Int)=[UInt8.ofNat (48+n)]:=by
 unfold Lib.itoa
 rw [if_neg (by omega),Int.toNat_natCast,decD_small h]
theorem itoM:Lib.itoa (-1)=[45,49]:=by
 unfold Lib.itoa
 rw [if_pos (by omega)]
 show 45::Lib.decDigits 1=_
 rw [decD_small (by omega)];rfl
theorem ito77:Lib.itoa 77=[55,55]:=by
 unfold Lib.itoa
 rw [if_neg (by omega)]
 show Lib.decDigits 77=_
 rw [decD_big (by omega),decD_small (by omega)];rfl
theorem linI:joi 32 (qBw (⟨10,0,1,0,[],[],[],[],[],[],[],[],0,[],false,0,0,[],[-1,5],[⟨3,2,1⟩]⟩:Akt))=[105,110,115,112,101,99,116,32,48,32,49,32,45,49,44,53,32,51,58,50,58,49]:=by
 have e:qBw (⟨10,0,1,0,[],[],[],[],[],[],[],[],0,[],false,0,0,[],[-1,5],[⟨3,2,1⟩]⟩:Akt)=[qAx 10,Lib.itoa 0,Lib.itoa 1,qEm [Lib.itoa (-1),Lib.itoa 5],qEm [qBz ⟨3,2,1⟩]]:=rfl
 rw [e]
 unfold qBz
 simp only
 rw [itoM,show Lib.itoa 0=[48] from ito (n:=0) (by omega),show Lib.itoa 1=[49] from ito (n:=1) (by omega),show Lib.itoa 5=[53] from ito (n:=5) (by omega),show Lib.itoa 3=[51] from ito (n:=3) (by omega),show Lib.itoa 2=[50] from ito (n:=2) (by omega)]
 rfl
theorem readI:readO [105,110,115,112,101,99,116,32,48,32,49,32,45,49,44,53,32,51,58,50,58,49]=((⟨10,0,1,0,[],[],[],[],[],[],[],[],0,[],false,0,0,[],[-1,5],[⟨3,2,1⟩]⟩:Akt),0)∧lineK (⟨10,0,1,0,[],[],[],[],[],[],[],[],0,[],false,0,0,[],[-1,5],[⟨3,2,1⟩]⟩:Akt)=[105,110,115,112,101,99,116,32,48,32,49,32,45,49,44,53,32,51,58,50,58,49]:=by
 have h:LineOk (⟨10,0,1,0,[],[],[],[],[],[],[],[],0,[],false,0,0,[],[-1,5],[⟨3,2,1⟩]⟩:Akt):=⟨by decide,rfl,fun f hf=>by
  have hf:f∈[Fld.num 0,Fld.num 1,Fld.nums [-1,5],Fld.flps [⟨3,2,1⟩]]:=hf
  simp only [List.mem_cons,List.not_mem_nil,or_false] at hf
  rcases hf with rfl | rfl | rfl | rfl
  ·show qAz 0;unfold qAz;omega
  ·show qAz 1;unfold qAz;omega
  ·intro n hn
   simp only [List.mem_cons,List.not_mem_nil,or_false] at hn
   unfold qAz
   rcases hn with rfl | rfl <;> omega
  ·intro g hg
   simp only [List.mem_cons,List.not_mem_nil,or_false] at hg
   subst hg
   unfold qAz
   simp only
   omega⟩
 exact ⟨readO_of h linI (by decide),by unfold lineK;rw [if_pos h];exact linI⟩
theorem qSv:Spec Tryz.prog 22 [.I 77] [] (fun r h'=>r=.d (.str [101,114,114,111,114,32,55,55])∧h'=[]):=by
 have hi:=qFe 77 (by omega)
 rw [ito77] at hi
 generalize hx:([55,55]:List UInt8)=w at hi
 have hwl:w.length=2:=by rw [← hx];rfl
 refine qAb hT Tryz.func22 rfl rfl rfl rfl ?_;intro E hE
 refine ww ?_
 refine wwc hi ?_
 refine ww ?_
 exact rq ⟨rfl,rfl⟩ rfl (lz (by rw [← hx];rfl))
theorem parse2:(qMu vBd).2.2=0:=by kernel_rfl
theorem begin1:∃ a:Aut,(a.roots.length≤1000000∧a.links.length≤1000000∧a.secs.length≤1000000∧a.rev.length≤1000000∧a.defs.length≤1000000∧a.seed.length≤1000000)∧qQm [85,84,79] [115,101,101,100] 40000=(a,0):=by
 refine ⟨qQl [85,84,79] [115,101,101,100] 40000,?_,?_⟩
 ·refine ⟨(show (1:Nat)≤1000000 by omega),(show (0:Nat)≤1000000 by omega),(show (1:Nat)≤1000000 by omega),(show (0:Nat)≤1000000 by omega),(show (0:Nat)≤1000000 by omega),?_⟩
  show (qOv _).length≤1000000
  rw [sumW_length];omega
 ·unfold qQm
  rw [if_neg (by decide),if_neg (by decide)]
theorem qQr (a:Aut) (hB:Spec Tryz.prog 140 [.d (.str [85,84,79]),.d (.sl 1 (qBb [115,101,101,100])),.I 40000] [] (fun r h'=>r=.tup [qOg a,.I 0]∧h'=[])):Spec Tryz.prog 23 [.agg (bC (.sl 33 [] .full) (.sl 11 [] .full)),.d (.str [102,111,117,110,100,32,85,84,79,32,115,101,101,100])] [] (fun r h'=>r=.tup [.agg (bC (.d (.sl 33 [qEn a])) (.sl 11 [] .full)),.d (.str [111,107])]∧h'=[]):=by
 have hR:=qGk [102,111,117,110,100,32,85,84,79,32,115,101,101,100] (by decide)
 rw [read1] at hR
 have hSt:=qXn a [85,84,79] [115,101,101,100] (by decide) hB
 refine qAb hT Tryz.func23 rfl rfl rfl rfl ?_;intro E hE
 refine qAf (qAc ?_)
 refine wws ?_
 refine qAf (qAc ?_)
 refine wk hT rfl rfl ?_
 refine wwc hR ?_
 refine wk hT rfl rfl ?_
 refine wk hT rfl rfl ?_
 refine wk hT rfl rfl ?_
 refine wk hT rfl rfl ?_
 refine qAu (qAp (i:=2) (off:=0) hT rfl rfl rfl (qEl rfl rfl)) (forceS_eq _ _) ?_
 refine wws ?_
 refine qAi (l:=[(2,.ptr 0 0),(4,.ptr 1 0),(6,.ptr 2 0),(7,.I 0)]) (h':=[.row (bC (.sl 33 [] .full) (.sl 11 [] .full)),.row [.I 0,.sl 33 [] .full,.sl 62 [] .full,.sl 11 [] .full],.row (cAct 2 0 0 0 [85,84,79] [115,101,101,100] [] [] [] [] [] [] 0 [] false [] [] [])]) yf (HLe.refl _) ?_
 refine ww ?_
 refine qAa rfl (fun q=>absurd q (by decide)) (fun q=>?_)
 refine ww ?_
 refine qAa rfl (fun q=>absurd q (by decide)) (fun q=>?_)
 refine wwe ?_
 refine qAf (qAc ?_)
 refine wk hT rfl rfl ?_
 refine qAd (qAo (i:=2) (off:=0) hT rfl rfl rfl (qDa rfl)) rfl ?_
 refine wwc hSt ?_
 refine wws ?_
 refine qAi (l:=[(2,.ptr 0 0),(4,.ptr 1 0),(7,.I 0),(8,.sl 21 [] .full)]) (h':=[.row (bC (.d (.sl 33 [qEn a])) (.sl 11 [] .full)),.row [.I 0,.sl 33 [] .full,.sl 62 [] .full,.sl 11 [] .full],.dead]) yf ⟨.refl _,.refl _,trivial,trivial⟩ ?_
 refine ww ?_
 refine qAa rfl (fun q=>absurd q (by decide)) (fun q=>?_)
 refine ww ?_
 refine qAa rfl (fun q=>absurd q (by decide)) (fun q=>?_)
 refine ww ?_
 exact rq ⟨rfl,rfl⟩ rfl (.refl _)
theorem qQq (a:Aut) (hl:a.roots.length≤1000000∧a.links.length≤1000000∧a.secs.length≤1000000∧a.rev.length≤1000000∧a.defs.length≤1000000∧a.seed.length≤1000000) (rs:List Rule) (i:Int) (hP:Spec Tryz.prog 155 [.d (.str vBd)] [] (fun r h'=>r=.tup [qNn rs,.I i,.I 0]∧h'=[])):Spec Tryz.prog 23 [.agg (bC (.d (.sl 33 [qEn a])) (.sl 11 [] .full)),.d (.str [112,111,115,116,32,112,32,97,99,99,101,112,116,32,105,102,32,112,97,116,104,59,32,114,101,102,117,115,101,59])] [] (fun r h'=>r=.tup [.agg (bC (.d (.sl 33 [qEn a])) (.d (.sl 11 [qNm [112] vBd]))),.d (.str [111,107])]∧h'=[]):=by
 have hR:=qGk [112,111,115,116,32,112,32,97,99,99,101,112,116,32,105,102,32,112,97,116,104,59,32,114,101,102,117,115,101,59] (by decide)
 rw [read2] at hR
 have hSt:=qTj a hl [112] vBd rs i (by decide) hP
 generalize vBd=tx at *
 refine qAb hT Tryz.func23 rfl rfl rfl rfl ?_;intro E hE
 refine qAf (qAc ?_)
 refine wws ?_
 refine qAf (qAc ?_)
 refine wk hT rfl rfl ?_
 refine wwc hR ?_
 refine wk hT rfl rfl ?_
 refine wk hT rfl rfl ?_
 refine wk hT rfl rfl ?_
 refine wk hT rfl rfl ?_
 refine qAu (qAp (i:=2) (off:=0) hT rfl rfl rfl (qEl rfl rfl)) (forceS_eq _ _) ?_
 refine wws ?_
 refine qAi (l:=[(2,.ptr 0 0),(4,.ptr 1 0),(6,.ptr 2 0),(7,.I 0)]) (h':=[.row (bC (.d (.sl 33 [qEn a])) (.sl 11 [] .full)),.row [.I 0,.sl 33 [] .full,.sl 62 [] .full,.sl 11 [] .full],.row (cAct 11 0 0 0 [112] tx [] [] [] [] [] [] 0 [] false [] [] [])]) yf (HLe.refl _) ?_
 refine ww ?_
 refine qAa rfl (fun q=>absurd q (by decide)) (fun q=>?_)
 refine ww ?_
 refine qAa rfl (fun q=>absurd q (by decide)) (fun q=>?_)
 refine wwe ?_
 refine qAf (qAc ?_)
 refine wk hT rfl rfl ?_
 refine qAd (qAo (i:=2) (off:=0) hT rfl rfl rfl (qDa rfl)) rfl ?_
 refine wwc hSt ?_
 refine wws ?_
 refine qAi (l:=[(2,.ptr 0 0),(4,.ptr 1 0),(7,.I 0),(8,.sl 21 [] .full)]) (h':=[.row (bC (.d (.sl 33 [qEn a])) (.d (.sl 11 [qNm [112] tx]))),.row [.I 0,.sl 33 [] .full,.sl 62 [] .full,.sl 11 [] .full],.dead]) yf ⟨.refl _,.refl _,trivial,trivial⟩ ?_
 refine ww ?_
 refine qAa rfl (fun q=>absurd q (by decide)) (fun q=>?_)
 refine ww ?_
 refine qAa rfl (fun q=>absurd q (by decide)) (fun q=>?_)
 refine ww ?_
 exact rq ⟨rfl,rfl⟩ rfl (.refl _)
theorem qQp (a:Aut) (Q:List (List Dat)):Spec Tryz.prog 23 [.agg (bC (.d (.sl 33 [qEn a])) (.d (.sl 11 Q))),.d (.str [104,101,108,108,111])] [] (fun r h'=>r=.tup [.agg (bC (.d (.sl 33 [qEn a])) (.d (.sl 11 Q))),.d (.str [101,114,114,111,114,32,55,55])]∧h'=[]):=by
 have hR:=qGk [104,101,108,108,111] (by decide)
 rw [read3] at hR
 refine qAb hT Tryz.func23 rfl rfl rfl rfl ?_;intro E hE
 refine qAf (qAc ?_)
 refine wws ?_
 refine qAf (qAc ?_)
 refine wk hT rfl rfl ?_
 refine wwc hR ?_
 refine wk hT rfl rfl ?_
 refine wk hT rfl rfl ?_
 refine wk hT rfl rfl ?_
 refine wk hT rfl rfl ?_
 refine qAu (qAp (i:=2) (off:=0) hT rfl rfl rfl (qEl rfl rfl)) (forceS_eq _ _) ?_
 refine wws ?_
 refine qAi (l:=[(2,.ptr 0 0),(4,.ptr 1 0),(7,.I 77)]) (h':=[.row (bC (.d (.sl 33 [qEn a])) (.d (.sl 11 Q))),.row [.I 0,.sl 33 [] .full,.sl 62 [] .full,.sl 11 [] .full],.dead]) yf ⟨.refl _,.refl _,trivial,trivial⟩ ?_
 refine ww ?_
 refine qAa rfl (fun q=>?_) (fun q=>absurd q (by decide))
 refine qAf ?_
 refine qAv (fun i=>bif Nat.beq i 0 then [0] else bif Nat.beq i 3 then [1] else []) (fun i=>bif Nat.beq i 3 then [1] else []) mixed (by kernel_rfl) ?_
 refine wwg ?_
 refine wwdc qSv ?_
 refine wwg ?_
 refine ww ?_
 exact rq ⟨rfl,rfl⟩ rfl (.refl _)
def qWw:Nat→List (List Dat)
 | 0=>([]:List (List Dat))
 | 1=>[[.str [111,107]]]
 | 2=>[[.str [111,107]],[.str [111,107]]]
 | _=>[[.str [111,107]],[.str [111,107]],[.str [101,114,114,111,114,32,55,55]]]
def vEc (a:Aut):Nat→List AV
 | 0=>bC (.sl 33 [] .full) (.sl 11 [] .full)
 | 1=>bC (.d (.sl 33 [qEn a])) (.sl 11 [] .full)
 | _=>bC (.d (.sl 33 [qEn a])) (.d (.sl 11 [qNm [112] vBd]))
theorem vHu {i:Nat} (hi:i < 3):(qAg [[102,111,117,110,100,32,85,84,79,32,115,101,101,100],[112,111,115,116,32,112,32,97,99,99,101,112,116,32,105,102,32,112,97,116,104,59,32,114,101,102,117,115,101,59],[104,101,108,108,111]])[((i:Int)).toNat]?=some [.str (([[102,111,117,110,100,32,85,84,79,32,115,101,101,100],[112,111,115,116,32,112,32,97,99,99,101,112,116,32,105,102,32,112,97,116,104,59,32,114,101,102,117,115,101,59],[104,101,108,108,111]]:List (List UInt8)).getD i [])]:=by
 rcases (by omega:i=0∨i=1∨i=2) with rfl | rfl | rfl <;> rfl
theorem vHk (i:Nat):(qWw i).length≤3:=by
 match i with
 | 0=>decide
 | 1=>decide
 | 2=>decide
 | i+3=>show 3≤3;omega
theorem vIm (a:Aut) (i:Nat):qBl 0 (vEc a i)=true:=by
 match i with
 | 0=>rfl
 | 1=>rfl
 | i+2=>rfl
theorem vIn (a:Aut) (i:Nat):(vEc a i).length=4:=by
 match i with
 | 0=>rfl
 | 1=>rfl
 | i+2=>rfl
theorem borL {C:List AV} (h:C.length=4):qEv T 63 C 0=some (.agg C):=loadA_agg rfl rfl (by rw [h];exact Nat.le_refl _) (List.take_of_length_le (by rw [List.length_drop,h];exact Nat.le_refl _))
theorem borS {C D:List AV} (h1:D.length=4) (h2:C.length=4):qDz T 63 D 0 (.agg C)=some C:=storeA_agg rfl h2 (by rw [h1];exact Nat.le_refl _) (setRun_full (by rw [h1,h2]))
theorem qXo:Spec Tryz.prog 8 [.d (.str [102,111,117,110,100,32,85,84,79,32,115,101,101,100,10,112,111,115,116,32,112,32,97,99,99,101,112,116,32,105,102,32,112,97,116,104,59,32,114,101,102,117,115,101,59,10,104,101,108,108,111])] [] (fun r h'=>r=.d (.sl 1 (qWw 3))∧h'=[]):=by
 obtain ⟨a,hl,hba⟩:=begin1
 have hB:=qXz [85,84,79] [115,101,101,100] 40000 (by decide) (by decide)
 rw [hba] at hB
 have hP:=qOn vBd (by decide)
 rw [parse2] at hP
 have hA1:=qQr a hB
 have hA2:=qQq a hl _ _ hP
 have hA3:=qQp a [qNm [112] vBd]
 have hans:∀ i,i < 3→∃ o,Spec Tryz.prog 23 [.agg (vEc a i),.d (.str (([[102,111,117,110,100,32,85,84,79,32,115,101,101,100],[112,111,115,116,32,112,32,97,99,99,101,112,116,32,105,102,32,112,97,116,104,59,32,114,101,102,117,115,101,59],[104,101,108,108,111]]:List (List UInt8)).getD i []))] [] (fun r h'=>r=.tup [.agg (vEc a (i+1)),.d (.str o)]∧h'=[])∧qWw (i+1)=qWw i++[[.str o]]∧0 < (([[102,111,117,110,100,32,85,84,79,32,115,101,101,100],[112,111,115,116,32,112,32,97,99,99,101,112,116,32,105,102,32,112,97,116,104,59,32,114,101,102,117,115,101,59],[104,101,108,108,111]]:List (List UInt8)).getD i []).length∧bI ((([[102,111,117,110,100,32,85,84,79,32,115,101,101,100],[112,111,115,116,32,112,32,97,99,99,101,112,116,32,105,102,32,112,97,116,104,59,32,114,101,102,117,115,101,59],[104,101,108,108,111]]:List (List UInt8)).getD i []).getD 0 0)≠35:=by
  intro i hi
  rcases (by omega:i=0∨i=1∨i=2) with rfl | rfl | rfl
  ·exact ⟨_,hA1,rfl,by decide,by decide⟩
  ·exact ⟨_,hA2,rfl,by decide,by decide⟩
  ·exact ⟨_,hA3,rfl,by decide,by decide⟩
 have hT1:=qLq [102,111,117,110,100,32,85,84,79,32,115,101,101,100,10,112,111,115,116,32,112,32,97,99,99,101,112,116,32,105,102,32,112,97,116,104,59,32,114,101,102,117,115,101,59,10,104,101,108,108,111] [10] (by decide)
 rw [show Lib.trimSuffix [102,111,117,110,100,32,85,84,79,32,115,101,101,100,10,112,111,115,116,32,112,32,97,99,99,101,112,116,32,105,102,32,112,97,116,104,59,32,114,101,102,117,115,101,59,10,104,101,108,108,111] [10]=[102,111,117,110,100,32,85,84,79,32,115,101,101,100,10,112,111,115,116,32,112,32,97,99,99,101,112,116,32,105,102,32,112,97,116,104,59,32,114,101,102,117,115,101,59,10,104,101,108,108,111] by decide] at hT1
 have hS1:=qGt 10 [102,111,117,110,100,32,85,84,79,32,115,101,101,100,10,112,111,115,116,32,112,32,97,99,99,101,112,116,32,105,102,32,112,97,116,104,59,32,114,101,102,117,115,101,59,10,104,101,108,108,111] (by decide)
 rw [show spl 10 [102,111,117,110,100,32,85,84,79,32,115,101,101,100,10,112,111,115,116,32,112,32,97,99,99,101,112,116,32,105,102,32,112,97,116,104,59,32,114,101,102,117,115,101,59,10,104,101,108,108,111]=[[102,111,117,110,100,32,85,84,79,32,115,101,101,100],[112,111,115,116,32,112,32,97,99,99,101,112,116,32,105,102,32,112,97,116,104,59,32,114,101,102,117,115,101,59],[104,101,108,108,111]] by decide] at hS1
 have hat:=fun (i:Nat) (hi:i < 3)=>vHu hi
 have hbl:=vIm a
 have hbn:=vIn a
 have hb0:vEc a 0=bC (.sl 33 [] .full) (.sl 11 [] .full):=rfl
 have hoL:=vHk
 clear hA1 hA2 hA3 hP hB hba hl
 have hLl:(qAg [[102,111,117,110,100,32,85,84,79,32,115,101,101,100],[112,111,115,116,32,112,32,97,99,99,101,112,116,32,105,102,32,112,97,116,104,59,32,114,101,102,117,115,101,59],[104,101,108,108,111]]).length=3:=rfl
 generalize ([[102,111,117,110,100,32,85,84,79,32,115,101,101,100],[112,111,115,116,32,112,32,97,99,99,101,112,116,32,105,102,32,112,97,116,104,59,32,114,101,102,117,115,101,59],[104,101,108,108,111]]:List (List UInt8))=Ls at *
 generalize qAg Ls=SL at *
 refine qAb hT Tryz.func8 rfl rfl rfl rfl ?_;intro E hE
 refine ww ?_
 refine wwc hT1 ?_
 refine ww ?_
 refine wwc hS1 ?_
 refine ww ?_
 refine qAa rfl (fun q=>?_) (fun q=>?_)
 ·exfalso
  rw [hLl] at q
  simp at q
 refine ww ?_
 refine qAq (qBc 5 1 1 (es:=[]) (.inr ⟨rfl,rfl⟩) rfl ?_)
 refine qAn (ι:=Nat) (fun i=>[(4,.ptr 0 0),(5,.sl 1 (qWw i) (.right 1)),(23,.d (.sl 1 SL)),(24,.I 3),(25,.I (i:Int))]) (fun i=>[.row (vEc a i),.right 1 (qWw i).length]) (fun i=>i≤3) (fun i=>3-i) 0 (by omega)
  ⟨.refl _,.refl _,.refl _,.int (by rw [hLl];rfl),.refl _,trivial⟩ yf ?_
 intro i hi
 refine ww ?_
 refine qAa rfl (fun c1=>?_) (fun c1=>?_)
 ·have hi':i < 3:=by simp at c1;omega
  obtain ⟨o,hA,ho,hp,h35⟩:=hans i hi'
  have hat:=hat i hi'
  have hln:=hoL i
  have hbi:=hbl i
  have hbi1:=hbl (i+1)
  have hni:=hbn i
  have hni1:=hbn (i+1)
  generalize Ls.getD i []=w at hA hat hp h35
  have hne:¬ w=[]:=fun hh=>by rw [hh] at hp;simp at hp
  have hst:=strAt_n w 0
  generalize hB1:vEc a (i+1)=B1 at hA hbi1 hni1
  generalize vEc a i=B0 at hA hbi hni ⊢
  generalize qWw i=S at ho hln ⊢
  refine ww ?_
  refine wwi hat ?_
  refine ww ?_
  refine qAa rfl (fun q=>?_) (fun q=>?_)
  ·exfalso
   simp only [Bool.or_eq_true,beq_iff_eq] at q
   rcases q with q | q
   ·exact hne q
   ·exact h35 (hst.symm.trans q)
  refine ww ?_
  have la:qBl 0 [.agg B0,.d (.str w)]=true:=by show (qBl 0 B0&&true)=true;rw [hbi];rfl
  have lb:low 0 (.tup [.agg B1,.d (.str o)])=true:=by show (qBl 0 B1&&true)=true;rw [hbi1];rfl
  refine qAd (qAo (i:=0) (off:=0) hT rfl rfl rfl (borL hni)) rfl ?_
  refine wk hT rfl rfl ?_
  refine qAd (qCf rfl rfl hA rfl la lb) rfl ?_
  refine wk hT rfl rfl ?_
  refine qAd (v:=.agg B1) (qAe (extractA_ok rfl rfl)) rfl ?_
  refine qAd (v:=.d (.str o)) (qAe (extractA_ok rfl rfl)) rfl ?_
  refine qAu (qAp (i:=0) (off:=0) hT rfl rfl rfl (borS (C:=B1) hni hni1)) (forceS_eq _ _) ?_
  refine wws ?_
  refine qAi (l:=[(4,.ptr 0 0),(5,.sl 1 S (.right 1)),(8,.d (.str o)),(23,.d (.sl 1 SL)),(24,.I 3),(25,.I (i:Int))]) (h':=[.row B1,.right 1 S.length]) yf (HLe.refl _) ?_
  refine ww ?_
  refine qAd (qAs (i:=1) hT rfl rfl rfl rfl rfl rfl (by show (S.length+1)*(16+1)≤_;omega)) rfl ?_
  refine ww ?_
  exact ⟨i+1,hi',by omega,⟨.refl _,AV.le.eq (by rw [ho];rfl),.refl _,.refl _,.int (by rw [qAh (by omega)];omega),trivial⟩,⟨by rw [hB1];exact ObLe.refl _,by rw [ho];exact ObLe.refl _,trivial⟩⟩
 ·have hi':i=3:=by simp at c1;omega
  subst hi'
  refine qBr ?_
  refine qAi (l:=[(5,.d (.sl 1 (qWw 3)))]) ⟨.dat,trivial⟩ (HLe.refl _) ?_
  refine ww ?_
  exact wwr
theorem qQn:Spec Tryz.prog 4 [] [] (fun r h'=>r=.d (.bool true)∧h'=[]):=by
 have h1:=qXo
 have h2:=qGk [105,110,115,112,101,99,116,32,48,32,49,32,45,49,44,53,32,51,58,50,58,49] (by decide)
 rw [readI.1] at h2
 have h3:=qQz (⟨10,0,1,0,[],[],[],[],[],[],[],[],0,[],false,0,0,[],[-1,5],[⟨3,2,1⟩]⟩:Akt) [] ⟨rfl,by decide,by decide⟩ (by decide)
 rw [readI.2] at h3
 have hC:qBn (⟨10,0,1,0,[],[],[],[],[],[],[],[],0,[],false,0,0,[],[-1,5],[⟨3,2,1⟩]⟩:Akt) []=[.I 10,.I 0,.I 1,.I 0,.d (.str []),.d (.str []),.d (.str []),.d (.str []),.d (.str []),.d (.str []),.d (.str []),.d (.str []),.I 0,.d (.sl 1 []),.d (.bool false),.d (.sl 5 []),.I 0,.d (.sl 1 []),.d (.sl 1 [[.int .i64 (-1)],[.int .i64 5]]),.d (.sl 3 [[.int .i64 3,.int .i64 2,.int .i64 1]])]:=rfl
 simp only at h2
 rw [hC] at h2 h3
 clear hC
 have a0:(qWw 3)[((0:Int)).toNat]?=some [.str [111,107]]:=rfl
 have a1:(qWw 3)[((1:Int)).toNat]?=some [.str [111,107]]:=rfl
 have a2:(qWw 3)[((2:Int)).toNat]?=some [.str [101,114,114,111,114,32,55,55]]:=rfl
 have al:(qWw 3).length=3:=rfl
 generalize qWw 3=OS at *
 refine qAb hT Tryz.func4 rfl rfl rfl rfl ?_;intro E hE
 refine qAf (qAc ?_)
 refine wws ?_
 refine qAf (qAc ?_)
 refine wwc h1 ?_
 refine wws ?_
 refine qAf (qAc ?_)
 refine wwc h2 ?_
 refine wk hT rfl rfl ?_
 refine wk hT rfl rfl ?_
 refine wk hT rfl rfl ?_
 refine wk hT rfl rfl ?_
 refine qAu (qAp (i:=0) (off:=0) hT rfl rfl rfl (qEl rfl rfl)) (forceS_eq _ _) ?_
 refine wws ?_
 refine qAi (l:=[(1,.d (.sl 1 OS)),(2,.ptr 0 0),(3,.I 0)]) (h':=[.row [.I 10,.I 0,.I 1,.I 0,.d (.str []),.d (.str []),.d (.str []),.d (.str []),.d (.str []),.d (.str []),.d (.str []),.d (.str []),.I 0,.d (.sl 1 []),.d (.bool false),.d (.sl 5 []),.I 0,.d (.sl 1 []),.d (.sl 1 [[.int .i64 (-1)],[.int .i64 5]]),.d (.sl 3 [[.int .i64 3,.int .i64 2,.int .i64 1]])]]) yf (HLe.refl _) ?_
 refine qAf (qAc ?_)
 refine wws ?_
 refine wwgi a0 ?_
 refine wws ?_
 refine wwgi a1 ?_
 refine wws ?_
 refine wwgi a2 ?_
 refine wws ?_
 refine wwgc h3 ?_
 refine ww ?_
 refine rq ⟨rfl,rfl⟩ rfl (.bool ?_)
 rw [al]
 decide
theorem readO_len {s:List UInt8} (hs:s.length≤1500):ActLen (readO s).1 []:=by
 unfold readO
 by_cases h:s≠[]∧lineK (qDk s)=s
 ·rw [if_pos h]
  exact scanF_len hs ((qEa s (qDk s) h.1).2 ⟨rfl,h.2⟩).1
 ·rw [if_neg h]
  exact ⟨rfl,by simp [akt0],by simp [akt0]⟩
theorem consoleReads_of (hA:Spec Tryz.prog 4 [] [] (fun r h'=>r=.d (.bool true)∧h'=[])) (s:List UInt8) (hs0:s.length≤9223372036854775807) :
  Spec Tryz.prog 3 [.d (.str s)] [] (fun r h'=>r=.d (.bool true)∧h'=[]):=by
 by_cases hs:s.length≤1500
 case neg =>
  refine qAb hT Tryz.func3 rfl rfl rfl rfl ?_;intro E hE
  refine ww ?_
  refine qAa rfl (fun q=>?_) (fun q=>absurd q (by simp;omega))
  refine ww ?_
  refine wwc hA ?_
  refine ww ?_
  exact wwr
 have h1:=qGk s hs
 have h2:=qXq s hs
 have hl:=readO_len hs
 have hn:=hl.nums
 have h3:=qCe (readO s).1 (readO s).1 [] [] hl.pts hl.pts (by omega) (by omega) (by omega) (by omega)
 rw [decide_eq_true rfl] at h3
 clear hl hn
 generalize readO s=p at *
 obtain ⟨x,n⟩:=p
 simp only at *
 refine qAb hT Tryz.func3 rfl rfl rfl rfl ?_;intro E hE
 refine ww ?_
 refine qAa rfl (fun q=>absurd q (by simp;omega)) (fun q=>?_)
 refine wwe ?_
 refine qAf (qAc ?_)
 refine wk hT rfl rfl ?_
 refine wwc h1 ?_
 refine wk hT rfl rfl ?_
 refine wk hT rfl rfl ?_
 refine wk hT rfl rfl ?_
 refine wk hT rfl rfl ?_
 refine qAu (qAp (i:=0) (off:=0) hT rfl rfl rfl (qEl rfl rfl)) (forceS_eq _ _) ?_
 refine wws ?_
 refine qAi (l:=[(0,.d (.str s)),(3,.ptr 0 0),(4,.I n)]) (h':=[.row (qBn x [])]) yf (HLe.refl _) ?_
 refine qAf (qAc ?_)
 refine wk hT rfl rfl ?_
 refine wwc h2 ?_
 refine wk hT rfl rfl ?_
 refine wk hT rfl rfl ?_
 refine wk hT rfl rfl ?_
 refine wk hT rfl rfl ?_
 refine qAu (qAp (i:=1) (off:=0) hT rfl rfl rfl (qEl rfl rfl)) (forceS_eq _ _) ?_
 refine wws ?_
 refine qAi (l:=[(3,.ptr 0 0),(4,.I n),(5,.ptr 1 0),(6,.I n)]) (h':=[.row (qBn x []),.row (qBn x [])]) yf (HLe.refl _) ?_
 refine qAf (qAc ?_)
 refine wwc hA ?_
 refine wk hT rfl rfl ?_
 refine wh hT rfl rfl rfl rfl ?_
 refine wh hT rfl rfl rfl rfl ?_
 refine wh hT rfl rfl rfl rfl ?_
 refine wk hT rfl rfl ?_
 refine wk hT rfl rfl ?_
 refine qCd (v:=.agg (qBn x [])) rfl rfl rfl (fun hg=>⟨(sg (C:=True) hg).1,qAo (i:=0) (off:=0) hT rfl rfl rfl (qDa rfl)⟩) ?_
 refine qCd (v:=.agg (qBn x [])) rfl rfl rfl (fun hg=>⟨(sg (C:=True) hg).1,qAo (i:=1) (off:=0) hT rfl rfl rfl (qDa rfl)⟩) ?_
 refine wwgc h3 ?_
 refine ww ?_
 refine rq ⟨rfl,rfl⟩ rfl (.bool ?_)
 simp
theorem consoleReads_spec (s:List UInt8) (hs:s.length≤9223372036854775807) :
  Spec Tryz.prog 3 [.d (.str s)] [] (fun r h'=>r=.d (.bool true)∧h'=[]):=consoleReads_of qQn s hs
end Tdoc
