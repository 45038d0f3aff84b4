/- Part 12 of the proof: the texts SC SD. -/
import Derived.Test.YtlfiejdnlcbpgaaGreatDoorCN11
set_option maxHeartbeats 8000000
set_option maxRecDepth 100000
set_option linter.unusedVariables false
set_option linter.unusedSimpArgs false
namespace Tdoc
open Go Go.Proofs
theorem qTy (s:List UInt8) (hs:s.length≤1500) (hk:qBh ((spl 32 s).getD 0 [])=0):Spec Tryz.prog 6 [.d (.str s)] [] (fun r h'=>r=.tup [.agg (qBn (readO s).1 []),.d (.int .i64 (readO s).2)]∧h'=[]):=by
 have hc:Spec Tryz.prog 11 [.d (.str s),.d (.int .u8 32)] [.room] (fun r h'=>r=.sl 1 (qAg (spl 32 s)) (.right 0)∧h'=[.right 1 (qAg (spl 32 s)).length]):=cutO_spec 32 s (by omega)
 have hwl:=fun j=>Nat.le_trans (qCy s j) hs
 have hnk:=fun (i:Int) (hi:1≤i∧i≤11)=>qCl hk hi
 rw [readO_0 hk]
 have n0:Spec Tryz.prog 12 [.ptr 0 0] [.row (wdO (spl 32 s) 0)] (fun r h'=>r=.d (.str ((spl 32 s).getD 0 []))∧h'=[.row (wdO (spl 32 s) 1)]):=nextR_spec (spl 32 s) 0 (by omega)
 clear hwl hk
 generalize (spl 32 s).getD 0 []=W0 at *
 generalize spl 32 s=L at *
 unfold wdO at *
 unfold qBn at *
 generalize qAg L=SL at *
 simp only at *
 refine qAb hT Tryz.func6 rfl rfl rfl rfl ?_;intro E hE
 refine qAq ?_
 refine qAf (qAc ?_)
 refine wws ?_
 refine qAf (qAc ?_)
 refine wws ?_
 refine qAd (qAk rfl rfl (hc) [0] (by decide) rfl rfl rfl rfl rfl rfl rfl) rfl ?_
 refine wws ?_
 refine qAf (qAc ?_)
 refine wws ?_
 refine qAi (l:=[(0,.d (.str s)),(2,.ptr 1 0),(4,.ptr 2 0),(5,.ptr 3 0)]) (h':=[.dead,.row (cAct 0 0 0 0 [] [] [] [] [] [] [] [] 0 [] false [] [] []),.row [.d (.sl 1 SL),.I 0],.row (cAct 0 0 0 0 [] [] [] [] [] [] [] [] 0 [] false [] [] [])]) yf ⟨trivial,actZ_le 0,⟨.dat,.refl _,trivial⟩,actZ_le 0,trivial⟩ ?_
 refine qAf (qAc ?_)
 refine wws ?_
 refine qAd (qAk (H':=[.dead,.row (cAct 0 0 0 0 [] [] [] [] [] [] [] [] 0 [] false [] [] []),.row [.d (.sl 1 SL),.I 1],.row (cAct 0 0 0 0 [] [] [] [] [] [] [] [] 0 [] false [] [] [])]) rfl rfl n0 [2] (by decide) rfl rfl rfl rfl rfl rfl rfl) rfl ?_
 refine wws ?_
 refine ww ?_
 refine qAn (ι:=Nat) (fun i=>[(0,.d (.str s)),(2,.ptr 1 0),(4,.ptr 2 0),(5,.ptr 3 0),(6,.d (.str W0)),(7,.I (i:Int))]) (fun i=>[.dead,.row (cAct 0 0 0 0 [] [] [] [] [] [] [] [] 0 [] false [] [] []),.row [.d (.sl 1 SL),.I 1],.row (cAct 0 0 0 0 [] [] [] [] [] [] [] [] 0 [] false [] [] [])]) (fun i=>1≤i∧i≤12) (fun i=>12-i) 1 ⟨by omega,by omega⟩ yf (HLe.refl _) ?_
 rintro i ⟨hi1,hi12⟩
 refine ww ?_
 refine wwc namesR_spec ?_
 refine ww ?_
 by_cases hi:i < 12
 ·refine qAa rfl (fun q=>?_) (fun q=>?_)
  case refine_2 =>
   exfalso
   rw [show (qAg ([]::qBt)).length=12 from rfl] at q
   simp at q
   omega
  have hna:=nameR_at (k:=(i:Int)) (by omega)
  have hnk:=hnk (i:Int) (by omega)
  have hwr:IntKind.i64.wrap ((i:Int)+1)=((i+1:Nat):Int):=by rw [qAh (by omega)];simp
  generalize qAx (i:Int)=nm at hna hnk
  clear q
  refine ww ?_
  refine wwc namesR_spec ?_
  refine ww ?_
  refine wwi hna ?_
  refine ww ?_
  refine qAa rfl (fun q=>absurd (hnk.1 (by simpa using q)) (by omega)) (fun q=>?_)
  refine ww ?_
  exact ⟨i+1,⟨by omega,by omega⟩,by omega,⟨.refl _,.refl _,.refl _,.refl _,.refl _,.int hwr,trivial⟩,HLe.refl _⟩
 have h12:i=12:=by omega
 subst h12
 refine qAa rfl (fun q=>absurd q (by decide)) (fun q=>?_)
 refine qBr ?_
 refine qAi (l:=[(0,.d (.str s)),(2,.ptr 1 0),(4,.ptr 2 0),(5,.ptr 3 0)]) (h':=[.dead,.row (cAct 0 0 0 0 [] [] [] [] [] [] [] [] 0 [] false [] [] []),.row [.d (.sl 1 SL),.I 1],.row (cAct 0 0 0 0 [] [] [] [] [] [] [] [] 0 [] false [] [] [])]) yf (HLe.refl _) ?_
 clear hnk n0 hc q
 refine wwn ?_
 refine qAa rfl (fun q=>absurd q (by decide)) (fun q=>?_)
 refine wwn ?_
 refine qAa rfl (fun q=>absurd q (by decide)) (fun q=>?_)
 refine wwn ?_
 refine qAa rfl (fun q=>absurd q (by decide)) (fun q=>?_)
 refine wwn ?_
 refine qAa rfl (fun q=>absurd q (by decide)) (fun q=>?_)
 refine wwn ?_
 refine qAa rfl (fun q=>absurd q (by decide)) (fun q=>?_)
 refine wwn ?_
 refine qAa rfl (fun q=>absurd q (by decide)) (fun q=>?_)
 refine wwn ?_
 refine qAa rfl (fun q=>absurd q (by decide)) (fun q=>?_)
 refine wwn ?_
 refine qAa rfl (fun q=>absurd q (by decide)) (fun q=>?_)
 refine wwn ?_
 refine qAa rfl (fun q=>absurd q (by decide)) (fun q=>?_)
 refine wwn ?_
 refine qAa rfl (fun q=>absurd q (by decide)) (fun q=>?_)
 refine wwn ?_
 refine qAa rfl (fun q=>absurd q (by decide)) (fun q=>?_)
 refine wwe ?_
 refine qAf (qAf (qAc ?_))
 refine wk hT rfl rfl ?_
 refine wk hT rfl rfl ?_
 refine wk hT rfl rfl ?_
 refine wk hT rfl rfl ?_
 refine wwk (show ((0:Int) == 0)=true from rfl) ?_
 refine qAa rfl (fun q=>?_) (fun q=>absurd q (by decide))
 refine qAf (qAc ?_)
 refine wk hT rfl rfl ?_
 refine qAu (qAp (i:=1) (off:=0) hT rfl rfl rfl (qEl rfl rfl)) (forceS_eq _ _) ?_
 refine ww ?_
 refine rq ⟨rfl,rfl⟩ rfl ?_
 exact AV.le.tup ⟨AV.le.agg (actZ_le 0),.refl _,trivial⟩
theorem qTx (s:List UInt8) (hs:s.length≤1500) (hk:qBh ((spl 32 s).getD 0 [])=1):Spec Tryz.prog 6 [.d (.str s)] [] (fun r h'=>r=.tup [.agg (qBn (readO s).1 []),.d (.int .i64 (readO s).2)]∧h'=[]):=by
 have hc:Spec Tryz.prog 11 [.d (.str s),.d (.int .u8 32)] [.room] (fun r h'=>r=.sl 1 (qAg (spl 32 s)) (.right 0)∧h'=[.right 1 (qAg (spl 32 s)).length]):=cutO_spec 32 s (by omega)
 have hwl:=fun j=>Nat.le_trans (qCy s j) hs
 have hnk:=fun (i:Int) (hi:1≤i∧i≤11)=>qCl hk hi
 have hrf:=readF_kind hk (by decide) (by decide)
 rw [show qBy 1=[.num] from rfl] at hrf
 simp only [qEu] at hrf
 have hW0:((spl 32 s).getD 0 []).length≤1500:=hwl 0
 have hrf2:qDk s=⟨1,0,0,(qBj ((spl 32 s).getD 1 [])),[],[],[],[],[],[],[],[],0,[],false,0,0,[],[],[]⟩:=hrf.trans rfl
 rw [readO_k hk (by decide) hrf2]
 clear hrf hrf2
 have hL:=qCi ⟨1,0,0,(qBj ((spl 32 s).getD 1 [])),[],[],[],[],[],[],[],[],0,[],false,0,0,[],[],[]⟩ [] ⟨rfl,by simp only [List.length_map,List.length_nil];omega,by simp only [List.length_nil];omega⟩
 have n0:Spec Tryz.prog 12 [.ptr 0 0] [.row (wdO (spl 32 s) 0)] (fun r h'=>r=.d (.str ((spl 32 s).getD 0 []))∧h'=[.row (wdO (spl 32 s) 1)]):=nextR_spec (spl 32 s) 0 (by omega)
 have n1:Spec Tryz.prog 12 [.ptr 0 0] [.row (wdO (spl 32 s) 1)] (fun r h'=>r=.d (.str ((spl 32 s).getD 1 []))∧h'=[.row (wdO (spl 32 s) 2)]):=nextR_spec (spl 32 s) 1 (by omega)
 have m1:=numberR_spec ((spl 32 s).getD 1 []) (by have:=hwl 1;omega)
 clear hwl hk
 generalize (spl 32 s).getD 0 []=W0 at *
 generalize (spl 32 s).getD 1 []=W1 at *
 generalize spl 32 s=L at *
 generalize hz:lineK ⟨1,0,0,(qBj W1),[],[],[],[],[],[],[],[],0,[],false,0,0,[],[],[]⟩=z at hL ⊢
 clear hz
 unfold wdO at *
 unfold qBn at *
 generalize qAg L=SL at *
 simp only at *
 refine qAb hT Tryz.func6 rfl rfl rfl rfl ?_;intro E hE
 refine qAq ?_
 refine qAf (qAc ?_)
 refine wws ?_
 refine qAf (qAc ?_)
 refine wws ?_
 refine qAd (qAk rfl rfl (hc) [0] (by decide) rfl rfl rfl rfl rfl rfl rfl) rfl ?_
 refine wws ?_
 refine qAf (qAc ?_)
 refine wws ?_
 refine qAi (l:=[(0,.d (.str s)),(2,.ptr 1 0),(4,.ptr 2 0),(5,.ptr 3 0)]) (h':=[.dead,.row (cAct 0 0 0 0 [] [] [] [] [] [] [] [] 0 [] false [] [] []),.row [.d (.sl 1 SL),.I 0],.row (cAct 0 0 0 0 [] [] [] [] [] [] [] [] 0 [] false [] [] [])]) yf ⟨trivial,actZ_le 0,⟨.dat,.refl _,trivial⟩,actZ_le 0,trivial⟩ ?_
 refine qAf (qAc ?_)
 refine wws ?_
 refine qAd (qAk (H':=[.dead,.row (cAct 0 0 0 0 [] [] [] [] [] [] [] [] 0 [] false [] [] []),.row [.d (.sl 1 SL),.I 1],.row (cAct 0 0 0 0 [] [] [] [] [] [] [] [] 0 [] false [] [] [])]) rfl rfl n0 [2] (by decide) rfl rfl rfl rfl rfl rfl rfl) rfl ?_
 refine wws ?_
 refine ww ?_
 refine qAn (ι:=Nat) (fun i=>[(0,.d (.str s)),(2,.ptr 1 0),(4,.ptr 2 0),(5,.ptr 3 0),(6,.d (.str W0)),(7,.I (i:Int))]) (fun i=>[.dead,.row (cAct 0 0 0 0 [] [] [] [] [] [] [] [] 0 [] false [] [] []),.row [.d (.sl 1 SL),.I 1],.row (cAct (if (1:Int) < i then 1 else 0:Int) 0 0 0 [] [] [] [] [] [] [] [] 0 [] false [] [] [])]) (fun i=>1≤i∧i≤12) (fun i=>12-i) 1 ⟨by omega,by omega⟩ yf (HLe.refl _) ?_
 rintro i ⟨hi1,hi12⟩
 refine ww ?_
 refine wwc namesR_spec ?_
 refine ww ?_
 by_cases hi:i < 12
 ·refine qAa rfl (fun q=>?_) (fun q=>?_)
  case refine_2 =>
   exfalso
   rw [show (qAg ([]::qBt)).length=12 from rfl] at q
   simp at q
   omega
  have hna:=nameR_at (k:=(i:Int)) (by omega)
  have hnk:=hnk (i:Int) (by omega)
  have hwr:IntKind.i64.wrap ((i:Int)+1)=((i+1:Nat):Int):=by rw [qAh (by omega)];simp
  generalize qAx (i:Int)=nm at hna hnk
  clear q
  refine ww ?_
  refine wwc namesR_spec ?_
  refine ww ?_
  refine wwi hna ?_
  refine ww ?_
  by_cases hik:(i:Int)=1
  ·refine qAa rfl (fun q=>?_) (fun q=>absurd (hnk.2 hik) (by simpa using q))
   have hii:i=1:=by omega
   subst hii
   refine ww ?_
   exact ⟨2,⟨by omega,by omega⟩,by omega,⟨.refl _,.refl _,.refl _,.refl _,.refl _,.int hwr,trivial⟩,HLe.refl _⟩
  ·refine qAa rfl (fun q=>absurd (hnk.1 (by simpa using q)) hik) (fun q=>?_)
   have hkk:(if (1:Int) < i then 1 else 0:Int)=(if (1:Int) < ((i+1:Nat):Int) then 1 else 0:Int):=by split <;> split <;> omega
   refine ww ?_
   exact ⟨i+1,⟨by omega,by omega⟩,by omega,⟨.refl _,.refl _,.refl _,.refl _,.refl _,.int hwr,trivial⟩,by rw [hkk];exact HLe.refl _⟩
 have h12:i=12:=by omega
 subst h12
 refine qAa rfl (fun q=>absurd q (by decide)) (fun q=>?_)
 refine qBr ?_
 refine qAi (l:=[(0,.d (.str s)),(2,.ptr 1 0),(4,.ptr 2 0),(5,.ptr 3 0)]) (h':=[.dead,.row (cAct 0 0 0 0 [] [] [] [] [] [] [] [] 0 [] false [] [] []),.row [.d (.sl 1 SL),.I 1],.row (cAct 1 0 0 0 [] [] [] [] [] [] [] [] 0 [] false [] [] [])]) yf (HLe.refl _) ?_
 clear hnk n0 hc q
 refine wwn ?_
 refine qAa rfl (fun q=>?_) (fun q=>absurd q (by decide))
 refine qAc ?_
 refine wws ?_
 refine qAd (qAk (H':=[.dead,.row (cAct 0 0 0 0 [] [] [] [] [] [] [] [] 0 [] false [] [] []),.row [.d (.sl 1 SL),.I 2],.row (cAct 1 0 0 0 [] [] [] [] [] [] [] [] 0 [] false [] [] [])]) rfl rfl n1 [2] (by decide) rfl rfl rfl rfl rfl rfl rfl) rfl ?_
 refine wws ?_
 refine wwc m1 ?_
 refine wws ?_
 refine qAi (l:=[(0,.d (.str s)),(2,.ptr 1 0),(4,.ptr 2 0),(5,.ptr 3 0)]) (h':=[.dead,.row (cAct 0 0 0 0 [] [] [] [] [] [] [] [] 0 [] false [] [] []),.row [.d (.sl 1 SL),.I 2],.row (cAct 1 0 0 (qBj W1) [] [] [] [] [] [] [] [] 0 [] false [] [] [])]) yf (HLe.refl _) ?_
 refine wwe ?_
 refine qAf (qAf (qAc ?_))
 refine wk hT rfl rfl ?_
 refine wk hT rfl rfl ?_
 refine wk hT rfl rfl ?_
 refine wk hT rfl rfl ?_
 refine qCd (v:=.agg (cAct 1 0 0 (qBj W1) [] [] [] [] [] [] [] [] 0 [] false [] [] [])) rfl rfl rfl (fun hg=>⟨(sg (C:=True) hg).1,qAo (i:=3) (off:=0) hT rfl rfl rfl (qDa rfl)⟩) ?_
 refine wwgc hL ?_
 refine ww ?_
 by_cases hzs:z=s
 ·rw [if_pos hzs]
  refine qAa rfl (fun q=>?_) (fun q=>?_)
  ·exfalso
   rw [hzs] at q
   simp at q
  refine wwe ?_
  refine qAf (qAc ?_)
  refine qAd (qAo (i:=3) (off:=0) hT rfl rfl rfl (qDa rfl)) rfl ?_
  refine qAu (qAp (i:=1) (off:=0) hT rfl rfl rfl (qEl rfl rfl)) (forceS_eq _ _) ?_
  refine ww ?_
  exact rq ⟨rfl,rfl⟩ rfl (.refl _)
 ·rw [if_neg hzs]
  refine qAa rfl (fun q=>?_) (fun q=>?_)
  case refine_2 =>
   exfalso
   simp at q
   exact hzs q
  refine qAf (qAc ?_)
  refine wk hT rfl rfl ?_
  refine qAu (qAp (i:=1) (off:=0) hT rfl rfl rfl (qEl rfl rfl)) (forceS_eq _ _) ?_
  refine ww ?_
  refine rq ⟨rfl,rfl⟩ rfl ?_
  exact AV.le.tup ⟨AV.le.agg (actZ_le 0),.refl _,trivial⟩
theorem qTw (s:List UInt8) (hs:s.length≤1500) (hk:qBh ((spl 32 s).getD 0 [])=2):Spec Tryz.prog 6 [.d (.str s)] [] (fun r h'=>r=.tup [.agg (qBn (readO s).1 []),.d (.int .i64 (readO s).2)]∧h'=[]):=by
 have hc:Spec Tryz.prog 11 [.d (.str s),.d (.int .u8 32)] [.room] (fun r h'=>r=.sl 1 (qAg (spl 32 s)) (.right 0)∧h'=[.right 1 (qAg (spl 32 s)).length]):=cutO_spec 32 s (by omega)
 have hwl:=fun j=>Nat.le_trans (qCy s j) hs
 have hnk:=fun (i:Int) (hi:1≤i∧i≤11)=>qCl hk hi
 have hrf:=readF_kind hk (by decide) (by decide)
 rw [show qBy 2=[.txt,.txt] from rfl] at hrf
 simp only [qEu] at hrf
 have hW0:((spl 32 s).getD 0 []).length≤1500:=hwl 0
 have hrf2:qDk s=⟨2,0,0,0,(qBa ((spl 32 s).getD 1 [])),(qBa ((spl 32 s).getD 2 [])),[],[],[],[],[],[],0,[],false,0,0,[],[],[]⟩:=hrf.trans rfl
 rw [readO_k hk (by decide) hrf2]
 clear hrf hrf2
 have hL:=qCi ⟨2,0,0,0,(qBa ((spl 32 s).getD 1 [])),(qBa ((spl 32 s).getD 2 [])),[],[],[],[],[],[],0,[],false,0,0,[],[],[]⟩ [] ⟨rfl,by simp only [List.length_map,List.length_nil];omega,by simp only [List.length_nil];have h0:=qCo ((spl 32 s).getD 1 []);have g0:=hwl 1;have h1:=qCo ((spl 32 s).getD 2 []);have g1:=hwl 2;omega⟩
 have n0:Spec Tryz.prog 12 [.ptr 0 0] [.row (wdO (spl 32 s) 0)] (fun r h'=>r=.d (.str ((spl 32 s).getD 0 []))∧h'=[.row (wdO (spl 32 s) 1)]):=nextR_spec (spl 32 s) 0 (by omega)
 have n1:Spec Tryz.prog 15 [.ptr 0 0] [.row (wdO (spl 32 s) 1)] (fun r h'=>r=.d (.str (qBa ((spl 32 s).getD 1 [])))∧h'=[.row (wdO (spl 32 s) 2)]):=textR45_spec (spl 32 s) 1 (by omega) (by have:=hwl 1;omega)
 have n2:Spec Tryz.prog 15 [.ptr 0 0] [.row (wdO (spl 32 s) 2)] (fun r h'=>r=.d (.str (qBa ((spl 32 s).getD 2 [])))∧h'=[.row (wdO (spl 32 s) 3)]):=textR45_spec (spl 32 s) 2 (by omega) (by have:=hwl 2;omega)
 clear hwl hk
 generalize (spl 32 s).getD 0 []=W0 at *
 generalize (spl 32 s).getD 1 []=W1 at *
 generalize (spl 32 s).getD 2 []=W2 at *
 generalize spl 32 s=L at *
 generalize hz:lineK ⟨2,0,0,0,(qBa W1),(qBa W2),[],[],[],[],[],[],0,[],false,0,0,[],[],[]⟩=z at hL ⊢
 clear hz
 unfold wdO at *
 unfold qBn at *
 generalize qAg L=SL at *
 simp only at *
 refine qAb hT Tryz.func6 rfl rfl rfl rfl ?_;intro E hE
 refine qAq ?_
 refine qAf (qAc ?_)
 refine wws ?_
 refine qAf (qAc ?_)
 refine wws ?_
 refine qAd (qAk rfl rfl (hc) [0] (by decide) rfl rfl rfl rfl rfl rfl rfl) rfl ?_
 refine wws ?_
 refine qAf (qAc ?_)
 refine wws ?_
 refine qAi (l:=[(0,.d (.str s)),(2,.ptr 1 0),(4,.ptr 2 0),(5,.ptr 3 0)]) (h':=[.dead,.row (cAct 0 0 0 0 [] [] [] [] [] [] [] [] 0 [] false [] [] []),.row [.d (.sl 1 SL),.I 0],.row (cAct 0 0 0 0 [] [] [] [] [] [] [] [] 0 [] false [] [] [])]) yf ⟨trivial,actZ_le 0,⟨.dat,.refl _,trivial⟩,actZ_le 0,trivial⟩ ?_
 refine qAf (qAc ?_)
 refine wws ?_
 refine qAd (qAk (H':=[.dead,.row (cAct 0 0 0 0 [] [] [] [] [] [] [] [] 0 [] false [] [] []),.row [.d (.sl 1 SL),.I 1],.row (cAct 0 0 0 0 [] [] [] [] [] [] [] [] 0 [] false [] [] [])]) rfl rfl n0 [2] (by decide) rfl rfl rfl rfl rfl rfl rfl) rfl ?_
 refine wws ?_
 refine ww ?_
 refine qAn (ι:=Nat) (fun i=>[(0,.d (.str s)),(2,.ptr 1 0),(4,.ptr 2 0),(5,.ptr 3 0),(6,.d (.str W0)),(7,.I (i:Int))]) (fun i=>[.dead,.row (cAct 0 0 0 0 [] [] [] [] [] [] [] [] 0 [] false [] [] []),.row [.d (.sl 1 SL),.I 1],.row (cAct (if (2:Int) < i then 2 else 0:Int) 0 0 0 [] [] [] [] [] [] [] [] 0 [] false [] [] [])]) (fun i=>1≤i∧i≤12) (fun i=>12-i) 1 ⟨by omega,by omega⟩ yf (HLe.refl _) ?_
 rintro i ⟨hi1,hi12⟩
 refine ww ?_
 refine wwc namesR_spec ?_
 refine ww ?_
 by_cases hi:i < 12
 ·refine qAa rfl (fun q=>?_) (fun q=>?_)
  case refine_2 =>
   exfalso
   rw [show (qAg ([]::qBt)).length=12 from rfl] at q
   simp at q
   omega
  have hna:=nameR_at (k:=(i:Int)) (by omega)
  have hnk:=hnk (i:Int) (by omega)
  have hwr:IntKind.i64.wrap ((i:Int)+1)=((i+1:Nat):Int):=by rw [qAh (by omega)];simp
  generalize qAx (i:Int)=nm at hna hnk
  clear q
  refine ww ?_
  refine wwc namesR_spec ?_
  refine ww ?_
  refine wwi hna ?_
  refine ww ?_
  by_cases hik:(i:Int)=2
  ·refine qAa rfl (fun q=>?_) (fun q=>absurd (hnk.2 hik) (by simpa using q))
   have hii:i=2:=by omega
   subst hii
   refine ww ?_
   exact ⟨3,⟨by omega,by omega⟩,by omega,⟨.refl _,.refl _,.refl _,.refl _,.refl _,.int hwr,trivial⟩,HLe.refl _⟩
  ·refine qAa rfl (fun q=>absurd (hnk.1 (by simpa using q)) hik) (fun q=>?_)
   have hkk:(if (2:Int) < i then 2 else 0:Int)=(if (2:Int) < ((i+1:Nat):Int) then 2 else 0:Int):=by split <;> split <;> omega
   refine ww ?_
   exact ⟨i+1,⟨by omega,by omega⟩,by omega,⟨.refl _,.refl _,.refl _,.refl _,.refl _,.int hwr,trivial⟩,by rw [hkk];exact HLe.refl _⟩
 have h12:i=12:=by omega
 subst h12
 refine qAa rfl (fun q=>absurd q (by decide)) (fun q=>?_)
 refine qBr ?_
 refine qAi (l:=[(0,.d (.str s)),(2,.ptr 1 0),(4,.ptr 2 0),(5,.ptr 3 0)]) (h':=[.dead,.row (cAct 0 0 0 0 [] [] [] [] [] [] [] [] 0 [] false [] [] []),.row [.d (.sl 1 SL),.I 1],.row (cAct 2 0 0 0 [] [] [] [] [] [] [] [] 0 [] false [] [] [])]) yf (HLe.refl _) ?_
 clear hnk n0 hc q
 refine wwn ?_
 refine qAa rfl (fun q=>absurd q (by decide)) (fun q=>?_)
 refine wwn ?_
 refine qAa rfl (fun q=>?_) (fun q=>absurd q (by decide))
 refine qAc ?_
 refine wws ?_
 refine qAd (qAk (H':=[.dead,.row (cAct 0 0 0 0 [] [] [] [] [] [] [] [] 0 [] false [] [] []),.row [.d (.sl 1 SL),.I 2],.row (cAct 2 0 0 0 [] [] [] [] [] [] [] [] 0 [] false [] [] [])]) rfl rfl n1 [2] (by decide) rfl rfl rfl rfl rfl rfl rfl) rfl ?_
 refine wws ?_
 refine qAd (qAk (H':=[.dead,.row (cAct 0 0 0 0 [] [] [] [] [] [] [] [] 0 [] false [] [] []),.row [.d (.sl 1 SL),.I 3],.row (cAct 2 0 0 0 [] [] [] [] [] [] [] [] 0 [] false [] [] [])]) rfl rfl n2 [2] (by decide) rfl rfl rfl rfl rfl rfl rfl) rfl ?_
 refine wws ?_
 refine qAi (l:=[(0,.d (.str s)),(2,.ptr 1 0),(4,.ptr 2 0),(5,.ptr 3 0)]) (h':=[.dead,.row (cAct 0 0 0 0 [] [] [] [] [] [] [] [] 0 [] false [] [] []),.row [.d (.sl 1 SL),.I 3],.row (cAct 2 0 0 0 (qBa W1) (qBa W2) [] [] [] [] [] [] 0 [] false [] [] [])]) yf (HLe.refl _) ?_
 refine wwe ?_
 refine qAf (qAf (qAc ?_))
 refine wk hT rfl rfl ?_
 refine wk hT rfl rfl ?_
 refine wk hT rfl rfl ?_
 refine wk hT rfl rfl ?_
 refine qCd (v:=.agg (cAct 2 0 0 0 (qBa W1) (qBa W2) [] [] [] [] [] [] 0 [] false [] [] [])) rfl rfl rfl (fun hg=>⟨(sg (C:=True) hg).1,qAo (i:=3) (off:=0) hT rfl rfl rfl (qDa rfl)⟩) ?_
 refine wwgc hL ?_
 refine ww ?_
 by_cases hzs:z=s
 ·rw [if_pos hzs]
  refine qAa rfl (fun q=>?_) (fun q=>?_)
  ·exfalso
   rw [hzs] at q
   simp at q
  refine wwe ?_
  refine qAf (qAc ?_)
  refine qAd (qAo (i:=3) (off:=0) hT rfl rfl rfl (qDa rfl)) rfl ?_
  refine qAu (qAp (i:=1) (off:=0) hT rfl rfl rfl (qEl rfl rfl)) (forceS_eq _ _) ?_
  refine ww ?_
  exact rq ⟨rfl,rfl⟩ rfl (.refl _)
 ·rw [if_neg hzs]
  refine qAa rfl (fun q=>?_) (fun q=>?_)
  case refine_2 =>
   exfalso
   simp at q
   exact hzs q
  refine qAf (qAc ?_)
  refine wk hT rfl rfl ?_
  refine qAu (qAp (i:=1) (off:=0) hT rfl rfl rfl (qEl rfl rfl)) (forceS_eq _ _) ?_
  refine ww ?_
  refine rq ⟨rfl,rfl⟩ rfl ?_
  exact AV.le.tup ⟨AV.le.agg (actZ_le 0),.refl _,trivial⟩
theorem qTv (s:List UInt8) (hs:s.length≤1500) (hk:qBh ((spl 32 s).getD 0 [])=3):Spec Tryz.prog 6 [.d (.str s)] [] (fun r h'=>r=.tup [.agg (qBn (readO s).1 []),.d (.int .i64 (readO s).2)]∧h'=[]):=by
 have hc:Spec Tryz.prog 11 [.d (.str s),.d (.int .u8 32)] [.room] (fun r h'=>r=.sl 1 (qAg (spl 32 s)) (.right 0)∧h'=[.right 1 (qAg (spl 32 s)).length]):=cutO_spec 32 s (by omega)
 have hwl:=fun j=>Nat.le_trans (qCy s j) hs
 have hnk:=fun (i:Int) (hi:1≤i∧i≤11)=>qCl hk hi
 have hrf:=readF_kind hk (by decide) (by decide)
 rw [show qBy 3=[.num] from rfl] at hrf
 simp only [qEu] at hrf
 have hW0:((spl 32 s).getD 0 []).length≤1500:=hwl 0
 have hrf2:qDk s=⟨3,(qBj ((spl 32 s).getD 1 [])),0,0,[],[],[],[],[],[],[],[],0,[],false,0,0,[],[],[]⟩:=hrf.trans rfl
 rw [readO_k hk (by decide) hrf2]
 clear hrf hrf2
 have hL:=qCi ⟨3,(qBj ((spl 32 s).getD 1 [])),0,0,[],[],[],[],[],[],[],[],0,[],false,0,0,[],[],[]⟩ [] ⟨rfl,by simp only [List.length_map,List.length_nil];omega,by simp only [List.length_nil];omega⟩
 have n0:Spec Tryz.prog 12 [.ptr 0 0] [.row (wdO (spl 32 s) 0)] (fun r h'=>r=.d (.str ((spl 32 s).getD 0 []))∧h'=[.row (wdO (spl 32 s) 1)]):=nextR_spec (spl 32 s) 0 (by omega)
 have n1:Spec Tryz.prog 12 [.ptr 0 0] [.row (wdO (spl 32 s) 1)] (fun r h'=>r=.d (.str ((spl 32 s).getD 1 []))∧h'=[.row (wdO (spl 32 s) 2)]):=nextR_spec (spl 32 s) 1 (by omega)
 have m1:=numberR_spec ((spl 32 s).getD 1 []) (by have:=hwl 1;omega)
 clear hwl hk
 generalize (spl 32 s).getD 0 []=W0 at *
 generalize (spl 32 s).getD 1 []=W1 at *
 generalize spl 32 s=L at *
 generalize hz:lineK ⟨3,(qBj W1),0,0,[],[],[],[],[],[],[],[],0,[],false,0,0,[],[],[]⟩=z at hL ⊢
 clear hz
 unfold wdO at *
 unfold qBn at *
 generalize qAg L=SL at *
 simp only at *
 refine qAb hT Tryz.func6 rfl rfl rfl rfl ?_;intro E hE
 refine qAq ?_
 refine qAf (qAc ?_)
 refine wws ?_
 refine qAf (qAc ?_)
 refine wws ?_
 refine qAd (qAk rfl rfl (hc) [0] (by decide) rfl rfl rfl rfl rfl rfl rfl) rfl ?_
 refine wws ?_
 refine qAf (qAc ?_)
 refine wws ?_
 refine qAi (l:=[(0,.d (.str s)),(2,.ptr 1 0),(4,.ptr 2 0),(5,.ptr 3 0)]) (h':=[.dead,.row (cAct 0 0 0 0 [] [] [] [] [] [] [] [] 0 [] false [] [] []),.row [.d (.sl 1 SL),.I 0],.row (cAct 0 0 0 0 [] [] [] [] [] [] [] [] 0 [] false [] [] [])]) yf ⟨trivial,actZ_le 0,⟨.dat,.refl _,trivial⟩,actZ_le 0,trivial⟩ ?_
 refine qAf (qAc ?_)
 refine wws ?_
 refine qAd (qAk (H':=[.dead,.row (cAct 0 0 0 0 [] [] [] [] [] [] [] [] 0 [] false [] [] []),.row [.d (.sl 1 SL),.I 1],.row (cAct 0 0 0 0 [] [] [] [] [] [] [] [] 0 [] false [] [] [])]) rfl rfl n0 [2] (by decide) rfl rfl rfl rfl rfl rfl rfl) rfl ?_
 refine wws ?_
 refine ww ?_
 refine qAn (ι:=Nat) (fun i=>[(0,.d (.str s)),(2,.ptr 1 0),(4,.ptr 2 0),(5,.ptr 3 0),(6,.d (.str W0)),(7,.I (i:Int))]) (fun i=>[.dead,.row (cAct 0 0 0 0 [] [] [] [] [] [] [] [] 0 [] false [] [] []),.row [.d (.sl 1 SL),.I 1],.row (cAct (if (3:Int) < i then 3 else 0:Int) 0 0 0 [] [] [] [] [] [] [] [] 0 [] false [] [] [])]) (fun i=>1≤i∧i≤12) (fun i=>12-i) 1 ⟨by omega,by omega⟩ yf (HLe.refl _) ?_
 rintro i ⟨hi1,hi12⟩
 refine ww ?_
 refine wwc namesR_spec ?_
 refine ww ?_
 by_cases hi:i < 12
 ·refine qAa rfl (fun q=>?_) (fun q=>?_)
  case refine_2 =>
   exfalso
   rw [show (qAg ([]::qBt)).length=12 from rfl] at q
   simp at q
   omega
  have hna:=nameR_at (k:=(i:Int)) (by omega)
  have hnk:=hnk (i:Int) (by omega)
  have hwr:IntKind.i64.wrap ((i:Int)+1)=((i+1:Nat):Int):=by rw [qAh (by omega)];simp
  generalize qAx (i:Int)=nm at hna hnk
  clear q
  refine ww ?_
  refine wwc namesR_spec ?_
  refine ww ?_
  refine wwi hna ?_
  refine ww ?_
  by_cases hik:(i:Int)=3
  ·refine qAa rfl (fun q=>?_) (fun q=>absurd (hnk.2 hik) (by simpa using q))
   have hii:i=3:=by omega
   subst hii
   refine ww ?_
   exact ⟨4,⟨by omega,by omega⟩,by omega,⟨.refl _,.refl _,.refl _,.refl _,.refl _,.int hwr,trivial⟩,HLe.refl _⟩
  ·refine qAa rfl (fun q=>absurd (hnk.1 (by simpa using q)) hik) (fun q=>?_)
   have hkk:(if (3:Int) < i then 3 else 0:Int)=(if (3:Int) < ((i+1:Nat):Int) then 3 else 0:Int):=by split <;> split <;> omega
   refine ww ?_
   exact ⟨i+1,⟨by omega,by omega⟩,by omega,⟨.refl _,.refl _,.refl _,.refl _,.refl _,.int hwr,trivial⟩,by rw [hkk];exact HLe.refl _⟩
 have h12:i=12:=by omega
 subst h12
 refine qAa rfl (fun q=>absurd q (by decide)) (fun q=>?_)
 refine qBr ?_
 refine qAi (l:=[(0,.d (.str s)),(2,.ptr 1 0),(4,.ptr 2 0),(5,.ptr 3 0)]) (h':=[.dead,.row (cAct 0 0 0 0 [] [] [] [] [] [] [] [] 0 [] false [] [] []),.row [.d (.sl 1 SL),.I 1],.row (cAct 3 0 0 0 [] [] [] [] [] [] [] [] 0 [] false [] [] [])]) yf (HLe.refl _) ?_
 clear hnk n0 hc q
 refine wwn ?_
 refine qAa rfl (fun q=>absurd q (by decide)) (fun q=>?_)
 refine wwn ?_
 refine qAa rfl (fun q=>absurd q (by decide)) (fun q=>?_)
 refine wwn ?_
 refine qAa rfl (fun q=>absurd q (by decide)) (fun q=>?_)
 refine wwn ?_
 refine qAa rfl (fun q=>absurd q (by decide)) (fun q=>?_)
 refine wwn ?_
 refine qAa rfl (fun q=>absurd q (by decide)) (fun q=>?_)
 refine wwn ?_
 refine qAa rfl (fun q=>?_) (fun q=>absurd q (by decide))
 refine qAc ?_
 refine wws ?_
 refine qAd (qAk (H':=[.dead,.row (cAct 0 0 0 0 [] [] [] [] [] [] [] [] 0 [] false [] [] []),.row [.d (.sl 1 SL),.I 2],.row (cAct 3 0 0 0 [] [] [] [] [] [] [] [] 0 [] false [] [] [])]) rfl rfl n1 [2] (by decide) rfl rfl rfl rfl rfl rfl rfl) rfl ?_
 refine wws ?_
 refine wwc m1 ?_
 refine wws ?_
 refine qAi (l:=[(0,.d (.str s)),(2,.ptr 1 0),(4,.ptr 2 0),(5,.ptr 3 0)]) (h':=[.dead,.row (cAct 0 0 0 0 [] [] [] [] [] [] [] [] 0 [] false [] [] []),.row [.d (.sl 1 SL),.I 2],.row (cAct 3 (qBj W1) 0 0 [] [] [] [] [] [] [] [] 0 [] false [] [] [])]) yf (HLe.refl _) ?_
 refine wwe ?_
 refine qAf (qAf (qAc ?_))
 refine wk hT rfl rfl ?_
 refine wk hT rfl rfl ?_
 refine wk hT rfl rfl ?_
 refine wk hT rfl rfl ?_
 refine qCd (v:=.agg (cAct 3 (qBj W1) 0 0 [] [] [] [] [] [] [] [] 0 [] false [] [] [])) rfl rfl rfl (fun hg=>⟨(sg (C:=True) hg).1,qAo (i:=3) (off:=0) hT rfl rfl rfl (qDa rfl)⟩) ?_
 refine wwgc hL ?_
 refine ww ?_
 by_cases hzs:z=s
 ·rw [if_pos hzs]
  refine qAa rfl (fun q=>?_) (fun q=>?_)
  ·exfalso
   rw [hzs] at q
   simp at q
  refine wwe ?_
  refine qAf (qAc ?_)
  refine qAd (qAo (i:=3) (off:=0) hT rfl rfl rfl (qDa rfl)) rfl ?_
  refine qAu (qAp (i:=1) (off:=0) hT rfl rfl rfl (qEl rfl rfl)) (forceS_eq _ _) ?_
  refine ww ?_
  exact rq ⟨rfl,rfl⟩ rfl (.refl _)
 ·rw [if_neg hzs]
  refine qAa rfl (fun q=>?_) (fun q=>?_)
  case refine_2 =>
   exfalso
   simp at q
   exact hzs q
  refine qAf (qAc ?_)
  refine wk hT rfl rfl ?_
  refine qAu (qAp (i:=1) (off:=0) hT rfl rfl rfl (qEl rfl rfl)) (forceS_eq _ _) ?_
  refine ww ?_
  refine rq ⟨rfl,rfl⟩ rfl ?_
  exact AV.le.tup ⟨AV.le.agg (actZ_le 0),.refl _,trivial⟩
theorem qTu (s:List UInt8) (hs:s.length≤1500) (hk:qBh ((spl 32 s).getD 0 [])=4):Spec Tryz.prog 6 [.d (.str s)] [] (fun r h'=>r=.tup [.agg (qBn (readO s).1 []),.d (.int .i64 (readO s).2)]∧h'=[]):=by
 have hc:Spec Tryz.prog 11 [.d (.str s),.d (.int .u8 32)] [.room] (fun r h'=>r=.sl 1 (qAg (spl 32 s)) (.right 0)∧h'=[.right 1 (qAg (spl 32 s)).length]):=cutO_spec 32 s (by omega)
 have hwl:=fun j=>Nat.le_trans (qCy s j) hs
 have hnk:=fun (i:Int) (hi:1≤i∧i≤11)=>qCl hk hi
 have hrf:=readF_kind hk (by decide) (by decide)
 rw [show qBy 4=[.num,.txt,.txt,.txt,.txt,.txt,.txt,.num,.flg,.nums,.nums] from rfl] at hrf
 simp only [qEu] at hrf
 have hW0:((spl 32 s).getD 0 []).length≤1500:=hwl 0
 have hrf2:qDk s=⟨4,(qBj ((spl 32 s).getD 1 [])),0,0,[],[],(qBa ((spl 32 s).getD 2 [])),(qBa ((spl 32 s).getD 3 [])),(qBa ((spl 32 s).getD 4 [])),(qBa ((spl 32 s).getD 5 [])),(qBa ((spl 32 s).getD 6 [])),(qBa ((spl 32 s).getD 7 [])),(qBj ((spl 32 s).getD 8 [])),((qBk ((spl 32 s).getD 10 [])).map qBj),(decide (((spl 32 s).getD 9 [])=[121,101,115])),0,0,((qBk ((spl 32 s).getD 11 [])).map qBj),[],[]⟩:=hrf.trans rfl
 rw [readO_k hk (by decide) hrf2]
 clear hrf hrf2
 have hL:=qCi ⟨4,(qBj ((spl 32 s).getD 1 [])),0,0,[],[],(qBa ((spl 32 s).getD 2 [])),(qBa ((spl 32 s).getD 3 [])),(qBa ((spl 32 s).getD 4 [])),(qBa ((spl 32 s).getD 5 [])),(qBa ((spl 32 s).getD 6 [])),(qBa ((spl 32 s).getD 7 [])),(qBj ((spl 32 s).getD 8 [])),((qBk ((spl 32 s).getD 10 [])).map qBj),(decide (((spl 32 s).getD 9 [])=[121,101,115])),0,0,((qBk ((spl 32 s).getD 11 [])).map qBj),[],[]⟩ [] ⟨rfl,by simp only [List.length_map,List.length_nil];have h9:=qEf ((spl 32 s).getD 10 []);have g9:=hwl 10;have h10:=qEf ((spl 32 s).getD 11 []);have g10:=hwl 11;omega,by simp only [List.length_nil];have h1:=qCo ((spl 32 s).getD 2 []);have g1:=hwl 2;have h2:=qCo ((spl 32 s).getD 3 []);have g2:=hwl 3;have h3:=qCo ((spl 32 s).getD 4 []);have g3:=hwl 4;have h4:=qCo ((spl 32 s).getD 5 []);have g4:=hwl 5;have h5:=qCo ((spl 32 s).getD 6 []);have g5:=hwl 6;have h6:=qCo ((spl 32 s).getD 7 []);have g6:=hwl 7;omega⟩
 have n0:Spec Tryz.prog 12 [.ptr 0 0] [.row (wdO (spl 32 s) 0)] (fun r h'=>r=.d (.str ((spl 32 s).getD 0 []))∧h'=[.row (wdO (spl 32 s) 1)]):=nextR_spec (spl 32 s) 0 (by omega)
 have n1:Spec Tryz.prog 12 [.ptr 0 0] [.row (wdO (spl 32 s) 1)] (fun r h'=>r=.d (.str ((spl 32 s).getD 1 []))∧h'=[.row (wdO (spl 32 s) 2)]):=nextR_spec (spl 32 s) 1 (by omega)
 have m1:=numberR_spec ((spl 32 s).getD 1 []) (by have:=hwl 1;omega)
 have n2:Spec Tryz.prog 15 [.ptr 0 0] [.row (wdO (spl 32 s) 2)] (fun r h'=>r=.d (.str (qBa ((spl 32 s).getD 2 [])))∧h'=[.row (wdO (spl 32 s) 3)]):=textR45_spec (spl 32 s) 2 (by omega) (by have:=hwl 2;omega)
 have n3:Spec Tryz.prog 15 [.ptr 0 0] [.row (wdO (spl 32 s) 3)] (fun r h'=>r=.d (.str (qBa ((spl 32 s).getD 3 [])))∧h'=[.row (wdO (spl 32 s) 4)]):=textR45_spec (spl 32 s) 3 (by omega) (by have:=hwl 3;omega)
 have n4:Spec Tryz.prog 15 [.ptr 0 0] [.row (wdO (spl 32 s) 4)] (fun r h'=>r=.d (.str (qBa ((spl 32 s).getD 4 [])))∧h'=[.row (wdO (spl 32 s) 5)]):=textR45_spec (spl 32 s) 4 (by omega) (by have:=hwl 4;omega)
 have n5:Spec Tryz.prog 15 [.ptr 0 0] [.row (wdO (spl 32 s) 5)] (fun r h'=>r=.d (.str (qBa ((spl 32 s).getD 5 [])))∧h'=[.row (wdO (spl 32 s) 6)]):=textR45_spec (spl 32 s) 5 (by omega) (by have:=hwl 5;omega)
 have n6:Spec Tryz.prog 15 [.ptr 0 0] [.row (wdO (spl 32 s) 6)] (fun r h'=>r=.d (.str (qBa ((spl 32 s).getD 6 [])))∧h'=[.row (wdO (spl 32 s) 7)]):=textR45_spec (spl 32 s) 6 (by omega) (by have:=hwl 6;omega)
 have n7:Spec Tryz.prog 15 [.ptr 0 0] [.row (wdO (spl 32 s) 7)] (fun r h'=>r=.d (.str (qBa ((spl 32 s).getD 7 [])))∧h'=[.row (wdO (spl 32 s) 8)]):=textR45_spec (spl 32 s) 7 (by omega) (by have:=hwl 7;omega)
 have n8:Spec Tryz.prog 12 [.ptr 0 0] [.row (wdO (spl 32 s) 8)] (fun r h'=>r=.d (.str ((spl 32 s).getD 8 []))∧h'=[.row (wdO (spl 32 s) 9)]):=nextR_spec (spl 32 s) 8 (by omega)
 have m8:=numberR_spec ((spl 32 s).getD 8 []) (by have:=hwl 8;omega)
 have n9:Spec Tryz.prog 12 [.ptr 0 0] [.row (wdO (spl 32 s) 9)] (fun r h'=>r=.d (.str ((spl 32 s).getD 9 []))∧h'=[.row (wdO (spl 32 s) 10)]):=nextR_spec (spl 32 s) 9 (by omega)
 have n10:Spec Tryz.prog 12 [.ptr 0 0] [.row (wdO (spl 32 s) 10)] (fun r h'=>r=.d (.str ((spl 32 s).getD 10 []))∧h'=[.row (wdO (spl 32 s) 11)]):=nextR_spec (spl 32 s) 10 (by omega)
 have m10:=numbersR_spec ((spl 32 s).getD 10 []) (by have:=hwl 10;omega)
 have n11:Spec Tryz.prog 12 [.ptr 0 0] [.row (wdO (spl 32 s) 11)] (fun r h'=>r=.d (.str ((spl 32 s).getD 11 []))∧h'=[.row (wdO (spl 32 s) 12)]):=nextR_spec (spl 32 s) 11 (by omega)
 have m11:=numbersR_spec ((spl 32 s).getD 11 []) (by have:=hwl 11;omega)
 clear hwl hk
 generalize (spl 32 s).getD 0 []=W0 at *
 generalize (spl 32 s).getD 1 []=W1 at *
 generalize (spl 32 s).getD 2 []=W2 at *
 generalize (spl 32 s).getD 3 []=W3 at *
 generalize (spl 32 s).getD 4 []=W4 at *
 generalize (spl 32 s).getD 5 []=W5 at *
 generalize (spl 32 s).getD 6 []=W6 at *
 generalize (spl 32 s).getD 7 []=W7 at *
 generalize (spl 32 s).getD 8 []=W8 at *
 generalize (spl 32 s).getD 9 []=W9 at *
 generalize (spl 32 s).getD 10 []=W10 at *
 generalize (spl 32 s).getD 11 []=W11 at *
 generalize spl 32 s=L at *
 generalize hz:lineK ⟨4,(qBj W1),0,0,[],[],(qBa W2),(qBa W3),(qBa W4),(qBa W5),(qBa W6),(qBa W7),(qBj W8),((qBk W10).map qBj),(decide (W9=[121,101,115])),0,0,((qBk W11).map qBj),[],[]⟩=z at hL ⊢
 clear hz
 unfold wdO at *
 unfold qBn at *
 generalize qAg L=SL at *
 simp only at *
 refine qAb hT Tryz.func6 rfl rfl rfl rfl ?_;intro E hE
 refine qAq ?_
 refine qAf (qAc ?_)
 refine wws ?_
 refine qAf (qAc ?_)
 refine wws ?_
 refine qAd (qAk rfl rfl (hc) [0] (by decide) rfl rfl rfl rfl rfl rfl rfl) rfl ?_
 refine wws ?_
 refine qAf (qAc ?_)
 refine wws ?_
 refine qAi (l:=[(0,.d (.str s)),(2,.ptr 1 0),(4,.ptr 2 0),(5,.ptr 3 0)]) (h':=[.dead,.row (cAct 0 0 0 0 [] [] [] [] [] [] [] [] 0 [] false [] [] []),.row [.d (.sl 1 SL),.I 0],.row (cAct 0 0 0 0 [] [] [] [] [] [] [] [] 0 [] false [] [] [])]) yf ⟨trivial,actZ_le 0,⟨.dat,.refl _,trivial⟩,actZ_le 0,trivial⟩ ?_
 refine qAf (qAc ?_)
 refine wws ?_
 refine qAd (qAk (H':=[.dead,.row (cAct 0 0 0 0 [] [] [] [] [] [] [] [] 0 [] false [] [] []),.row [.d (.sl 1 SL),.I 1],.row (cAct 0 0 0 0 [] [] [] [] [] [] [] [] 0 [] false [] [] [])]) rfl rfl n0 [2] (by decide) rfl rfl rfl rfl rfl rfl rfl) rfl ?_
 refine wws ?_
 refine ww ?_
 refine qAn (ι:=Nat) (fun i=>[(0,.d (.str s)),(2,.ptr 1 0),(4,.ptr 2 0),(5,.ptr 3 0),(6,.d (.str W0)),(7,.I (i:Int))]) (fun i=>[.dead,.row (cAct 0 0 0 0 [] [] [] [] [] [] [] [] 0 [] false [] [] []),.row [.d (.sl 1 SL),.I 1],.row (cAct (if (4:Int) < i then 4 else 0:Int) 0 0 0 [] [] [] [] [] [] [] [] 0 [] false [] [] [])]) (fun i=>1≤i∧i≤12) (fun i=>12-i) 1 ⟨by omega,by omega⟩ yf (HLe.refl _) ?_
 rintro i ⟨hi1,hi12⟩
 refine ww ?_
 refine wwc namesR_spec ?_
 refine ww ?_
 by_cases hi:i < 12
 ·refine qAa rfl (fun q=>?_) (fun q=>?_)
  case refine_2 =>
   exfalso
   rw [show (qAg ([]::qBt)).length=12 from rfl] at q
   simp at q
   omega
  have hna:=nameR_at (k:=(i:Int)) (by omega)
  have hnk:=hnk (i:Int) (by omega)
  have hwr:IntKind.i64.wrap ((i:Int)+1)=((i+1:Nat):Int):=by rw [qAh (by omega)];simp
  generalize qAx (i:Int)=nm at hna hnk
  clear q
  refine ww ?_
  refine wwc namesR_spec ?_
  refine ww ?_
  refine wwi hna ?_
  refine ww ?_
  by_cases hik:(i:Int)=4
  ·refine qAa rfl (fun q=>?_) (fun q=>absurd (hnk.2 hik) (by simpa using q))
   have hii:i=4:=by omega
   subst hii
   refine ww ?_
   exact ⟨5,⟨by omega,by omega⟩,by omega,⟨.refl _,.refl _,.refl _,.refl _,.refl _,.int hwr,trivial⟩,HLe.refl _⟩
  ·refine qAa rfl (fun q=>absurd (hnk.1 (by simpa using q)) hik) (fun q=>?_)
   have hkk:(if (4:Int) < i then 4 else 0:Int)=(if (4:Int) < ((i+1:Nat):Int) then 4 else 0:Int):=by split <;> split <;> omega
   refine ww ?_
   exact ⟨i+1,⟨by omega,by omega⟩,by omega,⟨.refl _,.refl _,.refl _,.refl _,.refl _,.int hwr,trivial⟩,by rw [hkk];exact HLe.refl _⟩
 have h12:i=12:=by omega
 subst h12
 refine qAa rfl (fun q=>absurd q (by decide)) (fun q=>?_)
 refine qBr ?_
 refine qAi (l:=[(0,.d (.str s)),(2,.ptr 1 0),(4,.ptr 2 0),(5,.ptr 3 0)]) (h':=[.dead,.row (cAct 0 0 0 0 [] [] [] [] [] [] [] [] 0 [] false [] [] []),.row [.d (.sl 1 SL),.I 1],.row (cAct 4 0 0 0 [] [] [] [] [] [] [] [] 0 [] false [] [] [])]) yf (HLe.refl _) ?_
 clear hnk n0 hc q
 refine wwn ?_
 refine qAa rfl (fun q=>absurd q (by decide)) (fun q=>?_)
 refine wwn ?_
 refine qAa rfl (fun q=>absurd q (by decide)) (fun q=>?_)
 refine wwn ?_
 refine qAa rfl (fun q=>absurd q (by decide)) (fun q=>?_)
 refine wwn ?_
 refine qAa rfl (fun q=>?_) (fun q=>absurd q (by decide))
 refine qAf (qAc ?_)
 refine wws ?_
 refine qAd (qAk (H':=[.dead,.row (cAct 0 0 0 0 [] [] [] [] [] [] [] [] 0 [] false [] [] []),.row [.d (.sl 1 SL),.I 2],.row (cAct 4 0 0 0 [] [] [] [] [] [] [] [] 0 [] false [] [] [])]) rfl rfl n1 [2] (by decide) rfl rfl rfl rfl rfl rfl rfl) rfl ?_
 refine wws ?_
 refine wwc m1 ?_
 refine wws ?_
 refine qAi (l:=[(0,.d (.str s)),(2,.ptr 1 0),(4,.ptr 2 0),(5,.ptr 3 0)]) (h':=[.dead,.row (cAct 0 0 0 0 [] [] [] [] [] [] [] [] 0 [] false [] [] []),.row [.d (.sl 1 SL),.I 2],.row (cAct 4 (qBj W1) 0 0 [] [] [] [] [] [] [] [] 0 [] false [] [] [])]) yf (HLe.refl _) ?_
 refine qAc ?_
 refine wws ?_
 refine qAd (qAk (H':=[.dead,.row (cAct 0 0 0 0 [] [] [] [] [] [] [] [] 0 [] false [] [] []),.row [.d (.sl 1 SL),.I 3],.row (cAct 4 (qBj W1) 0 0 [] [] [] [] [] [] [] [] 0 [] false [] [] [])]) rfl rfl n2 [2] (by decide) rfl rfl rfl rfl rfl rfl rfl) rfl ?_
 refine wws ?_
 refine qAd (qAk (H':=[.dead,.row (cAct 0 0 0 0 [] [] [] [] [] [] [] [] 0 [] false [] [] []),.row [.d (.sl 1 SL),.I 4],.row (cAct 4 (qBj W1) 0 0 [] [] [] [] [] [] [] [] 0 [] false [] [] [])]) rfl rfl n3 [2] (by decide) rfl rfl rfl rfl rfl rfl rfl) rfl ?_
 refine wws ?_
 refine qAd (qAk (H':=[.dead,.row (cAct 0 0 0 0 [] [] [] [] [] [] [] [] 0 [] false [] [] []),.row [.d (.sl 1 SL),.I 5],.row (cAct 4 (qBj W1) 0 0 [] [] [] [] [] [] [] [] 0 [] false [] [] [])]) rfl rfl n4 [2] (by decide) rfl rfl rfl rfl rfl rfl rfl) rfl ?_
 refine wws ?_
 refine qAd (qAk (H':=[.dead,.row (cAct 0 0 0 0 [] [] [] [] [] [] [] [] 0 [] false [] [] []),.row [.d (.sl 1 SL),.I 6],.row (cAct 4 (qBj W1) 0 0 [] [] [] [] [] [] [] [] 0 [] false [] [] [])]) rfl rfl n5 [2] (by decide) rfl rfl rfl rfl rfl rfl rfl) rfl ?_
 refine wws ?_
 refine qAd (qAk (H':=[.dead,.row (cAct 0 0 0 0 [] [] [] [] [] [] [] [] 0 [] false [] [] []),.row [.d (.sl 1 SL),.I 7],.row (cAct 4 (qBj W1) 0 0 [] [] [] [] [] [] [] [] 0 [] false [] [] [])]) rfl rfl n6 [2] (by decide) rfl rfl rfl rfl rfl rfl rfl) rfl ?_
 refine wws ?_
 refine qAd (qAk (H':=[.dead,.row (cAct 0 0 0 0 [] [] [] [] [] [] [] [] 0 [] false [] [] []),.row [.d (.sl 1 SL),.I 8],.row (cAct 4 (qBj W1) 0 0 [] [] [] [] [] [] [] [] 0 [] false [] [] [])]) rfl rfl n7 [2] (by decide) rfl rfl rfl rfl rfl rfl rfl) rfl ?_
 refine wws ?_
 refine qAd (qAk (H':=[.dead,.row (cAct 0 0 0 0 [] [] [] [] [] [] [] [] 0 [] false [] [] []),.row [.d (.sl 1 SL),.I 9],.row (cAct 4 (qBj W1) 0 0 [] [] [] [] [] [] [] [] 0 [] false [] [] [])]) rfl rfl n8 [2] (by decide) rfl rfl rfl rfl rfl rfl rfl) rfl ?_
 refine wws ?_
 refine wwc m8 ?_
 refine wws ?_
 refine qAd (qAk (H':=[.dead,.row (cAct 0 0 0 0 [] [] [] [] [] [] [] [] 0 [] false [] [] []),.row [.d (.sl 1 SL),.I 10],.row (cAct 4 (qBj W1) 0 0 [] [] [] [] [] [] [] [] 0 [] false [] [] [])]) rfl rfl n9 [2] (by decide) rfl rfl rfl rfl rfl rfl rfl) rfl ?_
 refine wws ?_
 refine qAd (qAk (H':=[.dead,.row (cAct 0 0 0 0 [] [] [] [] [] [] [] [] 0 [] false [] [] []),.row [.d (.sl 1 SL),.I 11],.row (cAct 4 (qBj W1) 0 0 [] [] [] [] [] [] [] [] 0 [] false [] [] [])]) rfl rfl n10 [2] (by decide) rfl rfl rfl rfl rfl rfl rfl) rfl ?_
 refine wws ?_
 refine wwc m10 ?_
 refine wws ?_
 refine qAd (qAk (H':=[.dead,.row (cAct 0 0 0 0 [] [] [] [] [] [] [] [] 0 [] false [] [] []),.row [.d (.sl 1 SL),.I 12],.row (cAct 4 (qBj W1) 0 0 [] [] [] [] [] [] [] [] 0 [] false [] [] [])]) rfl rfl n11 [2] (by decide) rfl rfl rfl rfl rfl rfl rfl) rfl ?_
 refine wws ?_
 refine wwc m11 ?_
 refine wws ?_
 refine qAi (l:=[(0,.d (.str s)),(2,.ptr 1 0),(4,.ptr 2 0),(5,.ptr 3 0)]) (h':=[.dead,.row (cAct 0 0 0 0 [] [] [] [] [] [] [] [] 0 [] false [] [] []),.row [.d (.sl 1 SL),.I 12],.row (cAct 4 (qBj W1) 0 0 [] [] (qBa W2) (qBa W3) (qBa W4) (qBa W5) (qBa W6) (qBa W7) (qBj W8) (qAl ((qBk W10).map qBj)) (decide (W9=[121,101,115])) (qAl ((qBk W11).map qBj)) [] [])]) yf ⟨trivial,.refl _,.refl _,⟨.refl _,.refl _,.refl _,.refl _,.refl _,.refl _,.refl _,.refl _,.refl _,.refl _,.refl _,.refl _,.refl _,.refl _,.bool (by rw [Bool.eq_iff_iff];simp),.dat,.refl _,.refl _,.refl _,.refl _,trivial⟩,trivial⟩ ?_
 refine wwe ?_
 refine qAf (qAf (qAc ?_))
 refine wk hT rfl rfl ?_
 refine wk hT rfl rfl ?_
 refine wk hT rfl rfl ?_
 refine wk hT rfl rfl ?_
 refine qCd (v:=.agg (cAct 4 (qBj W1) 0 0 [] [] (qBa W2) (qBa W3) (qBa W4) (qBa W5) (qBa W6) (qBa W7) (qBj W8) (qAl ((qBk W10).map qBj)) (decide (W9=[121,101,115])) (qAl ((qBk W11).map qBj)) [] [])) rfl rfl rfl (fun hg=>⟨(sg (C:=True) hg).1,qAo (i:=3) (off:=0) hT rfl rfl rfl (qDa rfl)⟩) ?_
 refine wwgc hL ?_
 refine ww ?_
 by_cases hzs:z=s
 ·rw [if_pos hzs]
  refine qAa rfl (fun q=>?_) (fun q=>?_)
  ·exfalso
   rw [hzs] at q
   simp at q
  refine wwe ?_
  refine qAf (qAc ?_)
  refine qAd (qAo (i:=3) (off:=0) hT rfl rfl rfl (qDa rfl)) rfl ?_
  refine qAu (qAp (i:=1) (off:=0) hT rfl rfl rfl (qEl rfl rfl)) (forceS_eq _ _) ?_
  refine ww ?_
  exact rq ⟨rfl,rfl⟩ rfl (.refl _)
 ·rw [if_neg hzs]
  refine qAa rfl (fun q=>?_) (fun q=>?_)
  case refine_2 =>
   exfalso
   simp at q
   exact hzs q
  refine qAf (qAc ?_)
  refine wk hT rfl rfl ?_
  refine qAu (qAp (i:=1) (off:=0) hT rfl rfl rfl (qEl rfl rfl)) (forceS_eq _ _) ?_
  refine ww ?_
  refine rq ⟨rfl,rfl⟩ rfl ?_
  exact AV.le.tup ⟨AV.le.agg (actZ_le 0),.refl _,trivial⟩
theorem qTt (s:List UInt8) (hs:s.length≤1500) (hk:qBh ((spl 32 s).getD 0 [])=5):Spec Tryz.prog 6 [.d (.str s)] [] (fun r h'=>r=.tup [.agg (qBn (readO s).1 []),.d (.int .i64 (readO s).2)]∧h'=[]):=by
 have hc:Spec Tryz.prog 11 [.d (.str s),.d (.int .u8 32)] [.room] (fun r h'=>r=.sl 1 (qAg (spl 32 s)) (.right 0)∧h'=[.right 1 (qAg (spl 32 s)).length]):=cutO_spec 32 s (by omega)
 have hwl:=fun j=>Nat.le_trans (qCy s j) hs
 have hnk:=fun (i:Int) (hi:1≤i∧i≤11)=>qCl hk hi
 have hrf:=readF_kind hk (by decide) (by decide)
 rw [show qBy 5=[.num,.num] from rfl] at hrf
 simp only [qEu] at hrf
 have hW0:((spl 32 s).getD 0 []).length≤1500:=hwl 0
 have hrf2:qDk s=⟨5,(qBj ((spl 32 s).getD 1 [])),(qBj ((spl 32 s).getD 2 [])),0,[],[],[],[],[],[],[],[],0,[],false,0,0,[],[],[]⟩:=hrf.trans rfl
 rw [readO_k hk (by decide) hrf2]
 clear hrf hrf2
 have hL:=qCi ⟨5,(qBj ((spl 32 s).getD 1 [])),(qBj ((spl 32 s).getD 2 [])),0,[],[],[],[],[],[],[],[],0,[],false,0,0,[],[],[]⟩ [] ⟨rfl,by simp only [List.length_map,List.length_nil];omega,by simp only [List.length_nil];omega⟩
 have n0:Spec Tryz.prog 12 [.ptr 0 0] [.row (wdO (spl 32 s) 0)] (fun r h'=>r=.d (.str ((spl 32 s).getD 0 []))∧h'=[.row (wdO (spl 32 s) 1)]):=nextR_spec (spl 32 s) 0 (by omega)
 have n1:Spec Tryz.prog 12 [.ptr 0 0] [.row (wdO (spl 32 s) 1)] (fun r h'=>r=.d (.str ((spl 32 s).getD 1 []))∧h'=[.row (wdO (spl 32 s) 2)]):=nextR_spec (spl 32 s) 1 (by omega)
 have m1:=numberR_spec ((spl 32 s).getD 1 []) (by have:=hwl 1;omega)
 have n2:Spec Tryz.prog 12 [.ptr 0 0] [.row (wdO (spl 32 s) 2)] (fun r h'=>r=.d (.str ((spl 32 s).getD 2 []))∧h'=[.row (wdO (spl 32 s) 3)]):=nextR_spec (spl 32 s) 2 (by omega)
 have m2:=numberR_spec ((spl 32 s).getD 2 []) (by have:=hwl 2;omega)
 clear hwl hk
 generalize (spl 32 s).getD 0 []=W0 at *
 generalize (spl 32 s).getD 1 []=W1 at *
 generalize (spl 32 s).getD 2 []=W2 at *
 generalize spl 32 s=L at *
 generalize hz:lineK ⟨5,(qBj W1),(qBj W2),0,[],[],[],[],[],[],[],[],0,[],false,0,0,[],[],[]⟩=z at hL ⊢
 clear hz
 unfold wdO at *
 unfold qBn at *
 generalize qAg L=SL at *
 simp only at *
 refine qAb hT Tryz.func6 rfl rfl rfl rfl ?_;intro E hE
 refine qAq ?_
 refine qAf (qAc ?_)
 refine wws ?_
 refine qAf (qAc ?_)
 refine wws ?_
 refine qAd (qAk rfl rfl (hc) [0] (by decide) rfl rfl rfl rfl rfl rfl rfl) rfl ?_
 refine wws ?_
 refine qAf (qAc ?_)
 refine wws ?_
 refine qAi (l:=[(0,.d (.str s)),(2,.ptr 1 0),(4,.ptr 2 0),(5,.ptr 3 0)]) (h':=[.dead,.row (cAct 0 0 0 0 [] [] [] [] [] [] [] [] 0 [] false [] [] []),.row [.d (.sl 1 SL),.I 0],.row (cAct 0 0 0 0 [] [] [] [] [] [] [] [] 0 [] false [] [] [])]) yf ⟨trivial,actZ_le 0,⟨.dat,.refl _,trivial⟩,actZ_le 0,trivial⟩ ?_
 refine qAf (qAc ?_)
 refine wws ?_
 refine qAd (qAk (H':=[.dead,.row (cAct 0 0 0 0 [] [] [] [] [] [] [] [] 0 [] false [] [] []),.row [.d (.sl 1 SL),.I 1],.row (cAct 0 0 0 0 [] [] [] [] [] [] [] [] 0 [] false [] [] [])]) rfl rfl n0 [2] (by decide) rfl rfl rfl rfl rfl rfl rfl) rfl ?_
 refine wws ?_
 refine ww ?_
 refine qAn (ι:=Nat) (fun i=>[(0,.d (.str s)),(2,.ptr 1 0),(4,.ptr 2 0),(5,.ptr 3 0),(6,.d (.str W0)),(7,.I (i:Int))]) (fun i=>[.dead,.row (cAct 0 0 0 0 [] [] [] [] [] [] [] [] 0 [] false [] [] []),.row [.d (.sl 1 SL),.I 1],.row (cAct (if (5:Int) < i then 5 else 0:Int) 0 0 0 [] [] [] [] [] [] [] [] 0 [] false [] [] [])]) (fun i=>1≤i∧i≤12) (fun i=>12-i) 1 ⟨by omega,by omega⟩ yf (HLe.refl _) ?_
 rintro i ⟨hi1,hi12⟩
 refine ww ?_
 refine wwc namesR_spec ?_
 refine ww ?_
 by_cases hi:i < 12
 ·refine qAa rfl (fun q=>?_) (fun q=>?_)
  case refine_2 =>
   exfalso
   rw [show (qAg ([]::qBt)).length=12 from rfl] at q
   simp at q
   omega
  have hna:=nameR_at (k:=(i:Int)) (by omega)
  have hnk:=hnk (i:Int) (by omega)
  have hwr:IntKind.i64.wrap ((i:Int)+1)=((i+1:Nat):Int):=by rw [qAh (by omega)];simp
  generalize qAx (i:Int)=nm at hna hnk
  clear q
  refine ww ?_
  refine wwc namesR_spec ?_
  refine ww ?_
  refine wwi hna ?_
  refine ww ?_
  by_cases hik:(i:Int)=5
  ·refine qAa rfl (fun q=>?_) (fun q=>absurd (hnk.2 hik) (by simpa using q))
   have hii:i=5:=by omega
   subst hii
   refine ww ?_
   exact ⟨6,⟨by omega,by omega⟩,by omega,⟨.refl _,.refl _,.refl _,.refl _,.refl _,.int hwr,trivial⟩,HLe.refl _⟩
  ·refine qAa rfl (fun q=>absurd (hnk.1 (by simpa using q)) hik) (fun q=>?_)
   have hkk:(if (5:Int) < i then 5 else 0:Int)=(if (5:Int) < ((i+1:Nat):Int) then 5 else 0:Int):=by split <;> split <;> omega
   refine ww ?_
   exact ⟨i+1,⟨by omega,by omega⟩,by omega,⟨.refl _,.refl _,.refl _,.refl _,.refl _,.int hwr,trivial⟩,by rw [hkk];exact HLe.refl _⟩
 have h12:i=12:=by omega
 subst h12
 refine qAa rfl (fun q=>absurd q (by decide)) (fun q=>?_)
 refine qBr ?_
 refine qAi (l:=[(0,.d (.str s)),(2,.ptr 1 0),(4,.ptr 2 0),(5,.ptr 3 0)]) (h':=[.dead,.row (cAct 0 0 0 0 [] [] [] [] [] [] [] [] 0 [] false [] [] []),.row [.d (.sl 1 SL),.I 1],.row (cAct 5 0 0 0 [] [] [] [] [] [] [] [] 0 [] false [] [] [])]) yf (HLe.refl _) ?_
 clear hnk n0 hc q
 refine wwn ?_
 refine qAa rfl (fun q=>absurd q (by decide)) (fun q=>?_)
 refine wwn ?_
 refine qAa rfl (fun q=>absurd q (by decide)) (fun q=>?_)
 refine wwn ?_
 refine qAa rfl (fun q=>absurd q (by decide)) (fun q=>?_)
 refine wwn ?_
 refine qAa rfl (fun q=>absurd q (by decide)) (fun q=>?_)
 refine wwn ?_
 refine qAa rfl (fun q=>absurd q (by decide)) (fun q=>?_)
 refine wwn ?_
 refine qAa rfl (fun q=>absurd q (by decide)) (fun q=>?_)
 refine wwn ?_
 refine qAa rfl (fun q=>?_) (fun q=>absurd q (by decide))
 refine wwn ?_
 refine qAa rfl (fun q=>?_) (fun q=>absurd q (by decide))
 refine qAc ?_
 refine wws ?_
 refine qAd (qAk (H':=[.dead,.row (cAct 0 0 0 0 [] [] [] [] [] [] [] [] 0 [] false [] [] []),.row [.d (.sl 1 SL),.I 2],.row (cAct 5 0 0 0 [] [] [] [] [] [] [] [] 0 [] false [] [] [])]) rfl rfl n1 [2] (by decide) rfl rfl rfl rfl rfl rfl rfl) rfl ?_
 refine wws ?_
 refine wwc m1 ?_
 refine wws ?_
 refine qAd (qAk (H':=[.dead,.row (cAct 0 0 0 0 [] [] [] [] [] [] [] [] 0 [] false [] [] []),.row [.d (.sl 1 SL),.I 3],.row (cAct 5 0 0 0 [] [] [] [] [] [] [] [] 0 [] false [] [] [])]) rfl rfl n2 [2] (by decide) rfl rfl rfl rfl rfl rfl rfl) rfl ?_
 refine wws ?_
 refine wwc m2 ?_
 refine wws ?_
 refine qAi (l:=[(0,.d (.str s)),(2,.ptr 1 0),(4,.ptr 2 0),(5,.ptr 3 0)]) (h':=[.dead,.row (cAct 0 0 0 0 [] [] [] [] [] [] [] [] 0 [] false [] [] []),.row [.d (.sl 1 SL),.I 3],.row (cAct 5 (qBj W1) (qBj W2) 0 [] [] [] [] [] [] [] [] 0 [] false [] [] [])]) yf (HLe.refl _) ?_
 refine wwe ?_
 refine qAf (qAf (qAc ?_))
 refine wk hT rfl rfl ?_
 refine wk hT rfl rfl ?_
 refine wk hT rfl rfl ?_
 refine wk hT rfl rfl ?_
 refine qCd (v:=.agg (cAct 5 (qBj W1) (qBj W2) 0 [] [] [] [] [] [] [] [] 0 [] false [] [] [])) rfl rfl rfl (fun hg=>⟨(sg (C:=True) hg).1,qAo (i:=3) (off:=0) hT rfl rfl rfl (qDa rfl)⟩) ?_
 refine wwgc hL ?_
 refine ww ?_
 by_cases hzs:z=s
 ·rw [if_pos hzs]
  refine qAa rfl (fun q=>?_) (fun q=>?_)
  ·exfalso
   rw [hzs] at q
   simp at q
  refine wwe ?_
  refine qAf (qAc ?_)
  refine qAd (qAo (i:=3) (off:=0) hT rfl rfl rfl (qDa rfl)) rfl ?_
  refine qAu (qAp (i:=1) (off:=0) hT rfl rfl rfl (qEl rfl rfl)) (forceS_eq _ _) ?_
  refine ww ?_
  exact rq ⟨rfl,rfl⟩ rfl (.refl _)
 ·rw [if_neg hzs]
  refine qAa rfl (fun q=>?_) (fun q=>?_)
  case refine_2 =>
   exfalso
   simp at q
   exact hzs q
  refine qAf (qAc ?_)
  refine wk hT rfl rfl ?_
  refine qAu (qAp (i:=1) (off:=0) hT rfl rfl rfl (qEl rfl rfl)) (forceS_eq _ _) ?_
  refine ww ?_
  refine rq ⟨rfl,rfl⟩ rfl ?_
  exact AV.le.tup ⟨AV.le.agg (actZ_le 0),.refl _,trivial⟩
theorem qTs (s:List UInt8) (hs:s.length≤1500) (hk:qBh ((spl 32 s).getD 0 [])=6):Spec Tryz.prog 6 [.d (.str s)] [] (fun r h'=>r=.tup [.agg (qBn (readO s).1 []),.d (.int .i64 (readO s).2)]∧h'=[]):=by
 have hc:Spec Tryz.prog 11 [.d (.str s),.d (.int .u8 32)] [.room] (fun r h'=>r=.sl 1 (qAg (spl 32 s)) (.right 0)∧h'=[.right 1 (qAg (spl 32 s)).length]):=cutO_spec 32 s (by omega)
 have hwl:=fun j=>Nat.le_trans (qCy s j) hs
 have hnk:=fun (i:Int) (hi:1≤i∧i≤11)=>qCl hk hi
 have hrf:=readF_kind hk (by decide) (by decide)
 rw [show qBy 6=[.num,.num] from rfl] at hrf
 simp only [qEu] at hrf
 have hW0:((spl 32 s).getD 0 []).length≤1500:=hwl 0
 have hrf2:qDk s=⟨6,(qBj ((spl 32 s).getD 1 [])),(qBj ((spl 32 s).getD 2 [])),0,[],[],[],[],[],[],[],[],0,[],false,0,0,[],[],[]⟩:=hrf.trans rfl
 rw [readO_k hk (by decide) hrf2]
 clear hrf hrf2
 have hL:=qCi ⟨6,(qBj ((spl 32 s).getD 1 [])),(qBj ((spl 32 s).getD 2 [])),0,[],[],[],[],[],[],[],[],0,[],false,0,0,[],[],[]⟩ [] ⟨rfl,by simp only [List.length_map,List.length_nil];omega,by simp only [List.length_nil];omega⟩
 have n0:Spec Tryz.prog 12 [.ptr 0 0] [.row (wdO (spl 32 s) 0)] (fun r h'=>r=.d (.str ((spl 32 s).getD 0 []))∧h'=[.row (wdO (spl 32 s) 1)]):=nextR_spec (spl 32 s) 0 (by omega)
 have n1:Spec Tryz.prog 12 [.ptr 0 0] [.row (wdO (spl 32 s) 1)] (fun r h'=>r=.d (.str ((spl 32 s).getD 1 []))∧h'=[.row (wdO (spl 32 s) 2)]):=nextR_spec (spl 32 s) 1 (by omega)
 have m1:=numberR_spec ((spl 32 s).getD 1 []) (by have:=hwl 1;omega)
 have n2:Spec Tryz.prog 12 [.ptr 0 0] [.row (wdO (spl 32 s) 2)] (fun r h'=>r=.d (.str ((spl 32 s).getD 2 []))∧h'=[.row (wdO (spl 32 s) 3)]):=nextR_spec (spl 32 s) 2 (by omega)
 have m2:=numberR_spec ((spl 32 s).getD 2 []) (by have:=hwl 2;omega)
 clear hwl hk
 generalize (spl 32 s).getD 0 []=W0 at *
 generalize (spl 32 s).getD 1 []=W1 at *
 generalize (spl 32 s).getD 2 []=W2 at *
 generalize spl 32 s=L at *
 generalize hz:lineK ⟨6,(qBj W1),(qBj W2),0,[],[],[],[],[],[],[],[],0,[],false,0,0,[],[],[]⟩=z at hL ⊢
 clear hz
 unfold wdO at *
 unfold qBn at *
 generalize qAg L=SL at *
 simp only at *
 refine qAb hT Tryz.func6 rfl rfl rfl rfl ?_;intro E hE
 refine qAq ?_
 refine qAf (qAc ?_)
 refine wws ?_
 refine qAf (qAc ?_)
 refine wws ?_
 refine qAd (qAk rfl rfl (hc) [0] (by decide) rfl rfl rfl rfl rfl rfl rfl) rfl ?_
 refine wws ?_
 refine qAf (qAc ?_)
 refine wws ?_
 refine qAi (l:=[(0,.d (.str s)),(2,.ptr 1 0),(4,.ptr 2 0),(5,.ptr 3 0)]) (h':=[.dead,.row (cAct 0 0 0 0 [] [] [] [] [] [] [] [] 0 [] false [] [] []),.row [.d (.sl 1 SL),.I 0],.row (cAct 0 0 0 0 [] [] [] [] [] [] [] [] 0 [] false [] [] [])]) yf ⟨trivial,actZ_le 0,⟨.dat,.refl _,trivial⟩,actZ_le 0,trivial⟩ ?_
 refine qAf (qAc ?_)
 refine wws ?_
 refine qAd (qAk (H':=[.dead,.row (cAct 0 0 0 0 [] [] [] [] [] [] [] [] 0 [] false [] [] []),.row [.d (.sl 1 SL),.I 1],.row (cAct 0 0 0 0 [] [] [] [] [] [] [] [] 0 [] false [] [] [])]) rfl rfl n0 [2] (by decide) rfl rfl rfl rfl rfl rfl rfl) rfl ?_
 refine wws ?_
 refine ww ?_
 refine qAn (ι:=Nat) (fun i=>[(0,.d (.str s)),(2,.ptr 1 0),(4,.ptr 2 0),(5,.ptr 3 0),(6,.d (.str W0)),(7,.I (i:Int))]) (fun i=>[.dead,.row (cAct 0 0 0 0 [] [] [] [] [] [] [] [] 0 [] false [] [] []),.row [.d (.sl 1 SL),.I 1],.row (cAct (if (6:Int) < i then 6 else 0:Int) 0 0 0 [] [] [] [] [] [] [] [] 0 [] false [] [] [])]) (fun i=>1≤i∧i≤12) (fun i=>12-i) 1 ⟨by omega,by omega⟩ yf (HLe.refl _) ?_
 rintro i ⟨hi1,hi12⟩
 refine ww ?_
 refine wwc namesR_spec ?_
 refine ww ?_
 by_cases hi:i < 12
 ·refine qAa rfl (fun q=>?_) (fun q=>?_)
  case refine_2 =>
   exfalso
   rw [show (qAg ([]::qBt)).length=12 from rfl] at q
   simp at q
   omega
  have hna:=nameR_at (k:=(i:Int)) (by omega)
  have hnk:=hnk (i:Int) (by omega)
  have hwr:IntKind.i64.wrap ((i:Int)+1)=((i+1:Nat):Int):=by rw [qAh (by omega)];simp
  generalize qAx (i:Int)=nm at hna hnk
  clear q
  refine ww ?_
  refine wwc namesR_spec ?_
  refine ww ?_
  refine wwi hna ?_
  refine ww ?_
  by_cases hik:(i:Int)=6
  ·refine qAa rfl (fun q=>?_) (fun q=>absurd (hnk.2 hik) (by simpa using q))
   have hii:i=6:=by omega
   subst hii
   refine ww ?_
   exact ⟨7,⟨by omega,by omega⟩,by omega,⟨.refl _,.refl _,.refl _,.refl _,.refl _,.int hwr,trivial⟩,HLe.refl _⟩
  ·refine qAa rfl (fun q=>absurd (hnk.1 (by simpa using q)) hik) (fun q=>?_)
   have hkk:(if (6:Int) < i then 6 else 0:Int)=(if (6:Int) < ((i+1:Nat):Int) then 6 else 0:Int):=by split <;> split <;> omega
   refine ww ?_
   exact ⟨i+1,⟨by omega,by omega⟩,by omega,⟨.refl _,.refl _,.refl _,.refl _,.refl _,.int hwr,trivial⟩,by rw [hkk];exact HLe.refl _⟩
 have h12:i=12:=by omega
 subst h12
 refine qAa rfl (fun q=>absurd q (by decide)) (fun q=>?_)
 refine qBr ?_
 refine qAi (l:=[(0,.d (.str s)),(2,.ptr 1 0),(4,.ptr 2 0),(5,.ptr 3 0)]) (h':=[.dead,.row (cAct 0 0 0 0 [] [] [] [] [] [] [] [] 0 [] false [] [] []),.row [.d (.sl 1 SL),.I 1],.row (cAct 6 0 0 0 [] [] [] [] [] [] [] [] 0 [] false [] [] [])]) yf (HLe.refl _) ?_
 clear hnk n0 hc q
 refine wwn ?_
 refine qAa rfl (fun q=>absurd q (by decide)) (fun q=>?_)
 refine wwn ?_
 refine qAa rfl (fun q=>absurd q (by decide)) (fun q=>?_)
 refine wwn ?_
 refine qAa rfl (fun q=>absurd q (by decide)) (fun q=>?_)
 refine wwn ?_
 refine qAa rfl (fun q=>absurd q (by decide)) (fun q=>?_)
 refine wwn ?_
 refine qAa rfl (fun q=>absurd q (by decide)) (fun q=>?_)
 refine wwn ?_
 refine qAa rfl (fun q=>absurd q (by decide)) (fun q=>?_)
 refine wwn ?_
 refine qAa rfl (fun q=>absurd q (by decide)) (fun q=>?_)
 refine wwn ?_
 refine qAa rfl (fun q=>?_) (fun q=>absurd q (by decide))
 refine wwn ?_
 refine qAa rfl (fun q=>?_) (fun q=>absurd q (by decide))
 refine qAc ?_
 refine wws ?_
 refine qAd (qAk (H':=[.dead,.row (cAct 0 0 0 0 [] [] [] [] [] [] [] [] 0 [] false [] [] []),.row [.d (.sl 1 SL),.I 2],.row (cAct 6 0 0 0 [] [] [] [] [] [] [] [] 0 [] false [] [] [])]) rfl rfl n1 [2] (by decide) rfl rfl rfl rfl rfl rfl rfl) rfl ?_
 refine wws ?_
 refine wwc m1 ?_
 refine wws ?_
 refine qAd (qAk (H':=[.dead,.row (cAct 0 0 0 0 [] [] [] [] [] [] [] [] 0 [] false [] [] []),.row [.d (.sl 1 SL),.I 3],.row (cAct 6 0 0 0 [] [] [] [] [] [] [] [] 0 [] false [] [] [])]) rfl rfl n2 [2] (by decide) rfl rfl rfl rfl rfl rfl rfl) rfl ?_
 refine wws ?_
 refine wwc m2 ?_
 refine wws ?_
 refine qAi (l:=[(0,.d (.str s)),(2,.ptr 1 0),(4,.ptr 2 0),(5,.ptr 3 0)]) (h':=[.dead,.row (cAct 0 0 0 0 [] [] [] [] [] [] [] [] 0 [] false [] [] []),.row [.d (.sl 1 SL),.I 3],.row (cAct 6 (qBj W1) (qBj W2) 0 [] [] [] [] [] [] [] [] 0 [] false [] [] [])]) yf (HLe.refl _) ?_
 refine wwe ?_
 refine qAf (qAf (qAc ?_))
 refine wk hT rfl rfl ?_
 refine wk hT rfl rfl ?_
 refine wk hT rfl rfl ?_
 refine wk hT rfl rfl ?_
 refine qCd (v:=.agg (cAct 6 (qBj W1) (qBj W2) 0 [] [] [] [] [] [] [] [] 0 [] false [] [] [])) rfl rfl rfl (fun hg=>⟨(sg (C:=True) hg).1,qAo (i:=3) (off:=0) hT rfl rfl rfl (qDa rfl)⟩) ?_
 refine wwgc hL ?_
 refine ww ?_
 by_cases hzs:z=s
 ·rw [if_pos hzs]
  refine qAa rfl (fun q=>?_) (fun q=>?_)
  ·exfalso
   rw [hzs] at q
   simp at q
  refine wwe ?_
  refine qAf (qAc ?_)
  refine qAd (qAo (i:=3) (off:=0) hT rfl rfl rfl (qDa rfl)) rfl ?_
  refine qAu (qAp (i:=1) (off:=0) hT rfl rfl rfl (qEl rfl rfl)) (forceS_eq _ _) ?_
  refine ww ?_
  exact rq ⟨rfl,rfl⟩ rfl (.refl _)
 ·rw [if_neg hzs]
  refine qAa rfl (fun q=>?_) (fun q=>?_)
  case refine_2 =>
   exfalso
   simp at q
   exact hzs q
  refine qAf (qAc ?_)
  refine wk hT rfl rfl ?_
  refine qAu (qAp (i:=1) (off:=0) hT rfl rfl rfl (qEl rfl rfl)) (forceS_eq _ _) ?_
  refine ww ?_
  refine rq ⟨rfl,rfl⟩ rfl ?_
  exact AV.le.tup ⟨AV.le.agg (actZ_le 0),.refl _,trivial⟩
theorem qTr (s:List UInt8) (hs:s.length≤1500) (hk:qBh ((spl 32 s).getD 0 [])=7):Spec Tryz.prog 6 [.d (.str s)] [] (fun r h'=>r=.tup [.agg (qBn (readO s).1 []),.d (.int .i64 (readO s).2)]∧h'=[]):=by
 have hc:Spec Tryz.prog 11 [.d (.str s),.d (.int .u8 32)] [.room] (fun r h'=>r=.sl 1 (qAg (spl 32 s)) (.right 0)∧h'=[.right 1 (qAg (spl 32 s)).length]):=cutO_spec 32 s (by omega)
 have hwl:=fun j=>Nat.le_trans (qCy s j) hs
 have hnk:=fun (i:Int) (hi:1≤i∧i≤11)=>qCl hk hi
 have hrf:=readF_kind hk (by decide) (by decide)
 rw [show qBy 7=[.num,.num,.num] from rfl] at hrf
 simp only [qEu] at hrf
 have hW0:((spl 32 s).getD 0 []).length≤1500:=hwl 0
 have hrf2:qDk s=⟨7,(qBj ((spl 32 s).getD 1 [])),(qBj ((spl 32 s).getD 2 [])),(qBj ((spl 32 s).getD 3 [])),[],[],[],[],[],[],[],[],0,[],false,0,0,[],[],[]⟩:=hrf.trans rfl
 rw [readO_k hk (by decide) hrf2]
 clear hrf hrf2
 have hL:=qCi ⟨7,(qBj ((spl 32 s).getD 1 [])),(qBj ((spl 32 s).getD 2 [])),(qBj ((spl 32 s).getD 3 [])),[],[],[],[],[],[],[],[],0,[],false,0,0,[],[],[]⟩ [] ⟨rfl,by simp only [List.length_map,List.length_nil];omega,by simp only [List.length_nil];omega⟩
 have n0:Spec Tryz.prog 12 [.ptr 0 0] [.row (wdO (spl 32 s) 0)] (fun r h'=>r=.d (.str ((spl 32 s).getD 0 []))∧h'=[.row (wdO (spl 32 s) 1)]):=nextR_spec (spl 32 s) 0 (by omega)
 have n1:Spec Tryz.prog 12 [.ptr 0 0] [.row (wdO (spl 32 s) 1)] (fun r h'=>r=.d (.str ((spl 32 s).getD 1 []))∧h'=[.row (wdO (spl 32 s) 2)]):=nextR_spec (spl 32 s) 1 (by omega)
 have m1:=numberR_spec ((spl 32 s).getD 1 []) (by have:=hwl 1;omega)
 have n2:Spec Tryz.prog 12 [.ptr 0 0] [.row (wdO (spl 32 s) 2)] (fun r h'=>r=.d (.str ((spl 32 s).getD 2 []))∧h'=[.row (wdO (spl 32 s) 3)]):=nextR_spec (spl 32 s) 2 (by omega)
 have m2:=numberR_spec ((spl 32 s).getD 2 []) (by have:=hwl 2;omega)
 have n3:Spec Tryz.prog 12 [.ptr 0 0] [.row (wdO (spl 32 s) 3)] (fun r h'=>r=.d (.str ((spl 32 s).getD 3 []))∧h'=[.row (wdO (spl 32 s) 4)]):=nextR_spec (spl 32 s) 3 (by omega)
 have m3:=numberR_spec ((spl 32 s).getD 3 []) (by have:=hwl 3;omega)
 clear hwl hk
 generalize (spl 32 s).getD 0 []=W0 at *
 generalize (spl 32 s).getD 1 []=W1 at *
 generalize (spl 32 s).getD 2 []=W2 at *
 generalize (spl 32 s).getD 3 []=W3 at *
 generalize spl 32 s=L at *
 generalize hz:lineK ⟨7,(qBj W1),(qBj W2),(qBj W3),[],[],[],[],[],[],[],[],0,[],false,0,0,[],[],[]⟩=z at hL ⊢
 clear hz
 unfold wdO at *
 unfold qBn at *
 generalize qAg L=SL at *
 simp only at *
 refine qAb hT Tryz.func6 rfl rfl rfl rfl ?_;intro E hE
 refine qAq ?_
 refine qAf (qAc ?_)
 refine wws ?_
 refine qAf (qAc ?_)
 refine wws ?_
 refine qAd (qAk rfl rfl (hc) [0] (by decide) rfl rfl rfl rfl rfl rfl rfl) rfl ?_
 refine wws ?_
 refine qAf (qAc ?_)
 refine wws ?_
 refine qAi (l:=[(0,.d (.str s)),(2,.ptr 1 0),(4,.ptr 2 0),(5,.ptr 3 0)]) (h':=[.dead,.row (cAct 0 0 0 0 [] [] [] [] [] [] [] [] 0 [] false [] [] []),.row [.d (.sl 1 SL),.I 0],.row (cAct 0 0 0 0 [] [] [] [] [] [] [] [] 0 [] false [] [] [])]) yf ⟨trivial,actZ_le 0,⟨.dat,.refl _,trivial⟩,actZ_le 0,trivial⟩ ?_
 refine qAf (qAc ?_)
 refine wws ?_
 refine qAd (qAk (H':=[.dead,.row (cAct 0 0 0 0 [] [] [] [] [] [] [] [] 0 [] false [] [] []),.row [.d (.sl 1 SL),.I 1],.row (cAct 0 0 0 0 [] [] [] [] [] [] [] [] 0 [] false [] [] [])]) rfl rfl n0 [2] (by decide) rfl rfl rfl rfl rfl rfl rfl) rfl ?_
 refine wws ?_
 refine ww ?_
 refine qAn (ι:=Nat) (fun i=>[(0,.d (.str s)),(2,.ptr 1 0),(4,.ptr 2 0),(5,.ptr 3 0),(6,.d (.str W0)),(7,.I (i:Int))]) (fun i=>[.dead,.row (cAct 0 0 0 0 [] [] [] [] [] [] [] [] 0 [] false [] [] []),.row [.d (.sl 1 SL),.I 1],.row (cAct (if (7:Int) < i then 7 else 0:Int) 0 0 0 [] [] [] [] [] [] [] [] 0 [] false [] [] [])]) (fun i=>1≤i∧i≤12) (fun i=>12-i) 1 ⟨by omega,by omega⟩ yf (HLe.refl _) ?_
 rintro i ⟨hi1,hi12⟩
 refine ww ?_
 refine wwc namesR_spec ?_
 refine ww ?_
 by_cases hi:i < 12
 ·refine qAa rfl (fun q=>?_) (fun q=>?_)
  case refine_2 =>
   exfalso
   rw [show (qAg ([]::qBt)).length=12 from rfl] at q
   simp at q
   omega
  have hna:=nameR_at (k:=(i:Int)) (by omega)
  have hnk:=hnk (i:Int) (by omega)
  have hwr:IntKind.i64.wrap ((i:Int)+1)=((i+1:Nat):Int):=by rw [qAh (by omega)];simp
  generalize qAx (i:Int)=nm at hna hnk
  clear q
  refine ww ?_
  refine wwc namesR_spec ?_
  refine ww ?_
  refine wwi hna ?_
  refine ww ?_
  by_cases hik:(i:Int)=7
  ·refine qAa rfl (fun q=>?_) (fun q=>absurd (hnk.2 hik) (by simpa using q))
   have hii:i=7:=by omega
   subst hii
   refine ww ?_
   exact ⟨8,⟨by omega,by omega⟩,by omega,⟨.refl _,.refl _,.refl _,.refl _,.refl _,.int hwr,trivial⟩,HLe.refl _⟩
  ·refine qAa rfl (fun q=>absurd (hnk.1 (by simpa using q)) hik) (fun q=>?_)
   have hkk:(if (7:Int) < i then 7 else 0:Int)=(if (7:Int) < ((i+1:Nat):Int) then 7 else 0:Int):=by split <;> split <;> omega
   refine ww ?_
   exact ⟨i+1,⟨by omega,by omega⟩,by omega,⟨.refl _,.refl _,.refl _,.refl _,.refl _,.int hwr,trivial⟩,by rw [hkk];exact HLe.refl _⟩
 have h12:i=12:=by omega
 subst h12
 refine qAa rfl (fun q=>absurd q (by decide)) (fun q=>?_)
 refine qBr ?_
 refine qAi (l:=[(0,.d (.str s)),(2,.ptr 1 0),(4,.ptr 2 0),(5,.ptr 3 0)]) (h':=[.dead,.row (cAct 0 0 0 0 [] [] [] [] [] [] [] [] 0 [] false [] [] []),.row [.d (.sl 1 SL),.I 1],.row (cAct 7 0 0 0 [] [] [] [] [] [] [] [] 0 [] false [] [] [])]) yf (HLe.refl _) ?_
 clear hnk n0 hc q
 refine wwn ?_
 refine qAa rfl (fun q=>absurd q (by decide)) (fun q=>?_)
 refine wwn ?_
 refine qAa rfl (fun q=>absurd q (by decide)) (fun q=>?_)
 refine wwn ?_
 refine qAa rfl (fun q=>absurd q (by decide)) (fun q=>?_)
 refine wwn ?_
 refine qAa rfl (fun q=>absurd q (by decide)) (fun q=>?_)
 refine wwn ?_
 refine qAa rfl (fun q=>absurd q (by decide)) (fun q=>?_)
 refine wwn ?_
 refine qAa rfl (fun q=>absurd q (by decide)) (fun q=>?_)
 refine wwn ?_
 refine qAa rfl (fun q=>absurd q (by decide)) (fun q=>?_)
 refine wwn ?_
 refine qAa rfl (fun q=>absurd q (by decide)) (fun q=>?_)
 refine wwn ?_
 refine qAa rfl (fun q=>absurd q (by decide)) (fun q=>?_)
 refine wwn ?_
 refine qAa rfl (fun q=>?_) (fun q=>absurd q (by decide))
 refine qAc ?_
 refine wws ?_
 refine qAd (qAk (H':=[.dead,.row (cAct 0 0 0 0 [] [] [] [] [] [] [] [] 0 [] false [] [] []),.row [.d (.sl 1 SL),.I 2],.row (cAct 7 0 0 0 [] [] [] [] [] [] [] [] 0 [] false [] [] [])]) rfl rfl n1 [2] (by decide) rfl rfl rfl rfl rfl rfl rfl) rfl ?_
 refine wws ?_
 refine wwc m1 ?_
 refine wws ?_
 refine qAd (qAk (H':=[.dead,.row (cAct 0 0 0 0 [] [] [] [] [] [] [] [] 0 [] false [] [] []),.row [.d (.sl 1 SL),.I 3],.row (cAct 7 0 0 0 [] [] [] [] [] [] [] [] 0 [] false [] [] [])]) rfl rfl n2 [2] (by decide) rfl rfl rfl rfl rfl rfl rfl) rfl ?_
 refine wws ?_
 refine wwc m2 ?_
 refine wws ?_
 refine qAd (qAk (H':=[.dead,.row (cAct 0 0 0 0 [] [] [] [] [] [] [] [] 0 [] false [] [] []),.row [.d (.sl 1 SL),.I 4],.row (cAct 7 0 0 0 [] [] [] [] [] [] [] [] 0 [] false [] [] [])]) rfl rfl n3 [2] (by decide) rfl rfl rfl rfl rfl rfl rfl) rfl ?_
 refine wws ?_
 refine wwc m3 ?_
 refine wws ?_
 refine qAi (l:=[(0,.d (.str s)),(2,.ptr 1 0),(4,.ptr 2 0),(5,.ptr 3 0)]) (h':=[.dead,.row (cAct 0 0 0 0 [] [] [] [] [] [] [] [] 0 [] false [] [] []),.row [.d (.sl 1 SL),.I 4],.row (cAct 7 (qBj W1) (qBj W2) (qBj W3) [] [] [] [] [] [] [] [] 0 [] false [] [] [])]) yf (HLe.refl _) ?_
 refine wwe ?_
 refine qAf (qAf (qAc ?_))
 refine wk hT rfl rfl ?_
 refine wk hT rfl rfl ?_
 refine wk hT rfl rfl ?_
 refine wk hT rfl rfl ?_
 refine qCd (v:=.agg (cAct 7 (qBj W1) (qBj W2) (qBj W3) [] [] [] [] [] [] [] [] 0 [] false [] [] [])) rfl rfl rfl (fun hg=>⟨(sg (C:=True) hg).1,qAo (i:=3) (off:=0) hT rfl rfl rfl (qDa rfl)⟩) ?_
 refine wwgc hL ?_
 refine ww ?_
 by_cases hzs:z=s
 ·rw [if_pos hzs]
  refine qAa rfl (fun q=>?_) (fun q=>?_)
  ·exfalso
   rw [hzs] at q
   simp at q
  refine wwe ?_
  refine qAf (qAc ?_)
  refine qAd (qAo (i:=3) (off:=0) hT rfl rfl rfl (qDa rfl)) rfl ?_
  refine qAu (qAp (i:=1) (off:=0) hT rfl rfl rfl (qEl rfl rfl)) (forceS_eq _ _) ?_
  refine ww ?_
  exact rq ⟨rfl,rfl⟩ rfl (.refl _)
 ·rw [if_neg hzs]
  refine qAa rfl (fun q=>?_) (fun q=>?_)
  case refine_2 =>
   exfalso
   simp at q
   exact hzs q
  refine qAf (qAc ?_)
  refine wk hT rfl rfl ?_
  refine qAu (qAp (i:=1) (off:=0) hT rfl rfl rfl (qEl rfl rfl)) (forceS_eq _ _) ?_
  refine ww ?_
  refine rq ⟨rfl,rfl⟩ rfl ?_
  exact AV.le.tup ⟨AV.le.agg (actZ_le 0),.refl _,trivial⟩
theorem qTq (s:List UInt8) (hs:s.length≤1500) (hk:qBh ((spl 32 s).getD 0 [])=8):Spec Tryz.prog 6 [.d (.str s)] [] (fun r h'=>r=.tup [.agg (qBn (readO s).1 []),.d (.int .i64 (readO s).2)]∧h'=[]):=by
 have hc:Spec Tryz.prog 11 [.d (.str s),.d (.int .u8 32)] [.room] (fun r h'=>r=.sl 1 (qAg (spl 32 s)) (.right 0)∧h'=[.right 1 (qAg (spl 32 s)).length]):=cutO_spec 32 s (by omega)
 have hwl:=fun j=>Nat.le_trans (qCy s j) hs
 have hnk:=fun (i:Int) (hi:1≤i∧i≤11)=>qCl hk hi
 have hrf:=readF_kind hk (by decide) (by decide)
 rw [show qBy 8=[.num,.num] from rfl] at hrf
 simp only [qEu] at hrf
 have hW0:((spl 32 s).getD 0 []).length≤1500:=hwl 0
 have hrf2:qDk s=⟨8,(qBj ((spl 32 s).getD 1 [])),(qBj ((spl 32 s).getD 2 [])),0,[],[],[],[],[],[],[],[],0,[],false,0,0,[],[],[]⟩:=hrf.trans rfl
 rw [readO_k hk (by decide) hrf2]
 clear hrf hrf2
 have hL:=qCi ⟨8,(qBj ((spl 32 s).getD 1 [])),(qBj ((spl 32 s).getD 2 [])),0,[],[],[],[],[],[],[],[],0,[],false,0,0,[],[],[]⟩ [] ⟨rfl,by simp only [List.length_map,List.length_nil];omega,by simp only [List.length_nil];omega⟩
 have n0:Spec Tryz.prog 12 [.ptr 0 0] [.row (wdO (spl 32 s) 0)] (fun r h'=>r=.d (.str ((spl 32 s).getD 0 []))∧h'=[.row (wdO (spl 32 s) 1)]):=nextR_spec (spl 32 s) 0 (by omega)
 have n1:Spec Tryz.prog 12 [.ptr 0 0] [.row (wdO (spl 32 s) 1)] (fun r h'=>r=.d (.str ((spl 32 s).getD 1 []))∧h'=[.row (wdO (spl 32 s) 2)]):=nextR_spec (spl 32 s) 1 (by omega)
 have m1:=numberR_spec ((spl 32 s).getD 1 []) (by have:=hwl 1;omega)
 have n2:Spec Tryz.prog 12 [.ptr 0 0] [.row (wdO (spl 32 s) 2)] (fun r h'=>r=.d (.str ((spl 32 s).getD 2 []))∧h'=[.row (wdO (spl 32 s) 3)]):=nextR_spec (spl 32 s) 2 (by omega)
 have m2:=numberR_spec ((spl 32 s).getD 2 []) (by have:=hwl 2;omega)
 clear hwl hk
 generalize (spl 32 s).getD 0 []=W0 at *
 generalize (spl 32 s).getD 1 []=W1 at *
 generalize (spl 32 s).getD 2 []=W2 at *
 generalize spl 32 s=L at *
 generalize hz:lineK ⟨8,(qBj W1),(qBj W2),0,[],[],[],[],[],[],[],[],0,[],false,0,0,[],[],[]⟩=z at hL ⊢
 clear hz
 unfold wdO at *
 unfold qBn at *
 generalize qAg L=SL at *
 simp only at *
 refine qAb hT Tryz.func6 rfl rfl rfl rfl ?_;intro E hE
 refine qAq ?_
 refine qAf (qAc ?_)
 refine wws ?_
 refine qAf (qAc ?_)
 refine wws ?_
 refine qAd (qAk rfl rfl (hc) [0] (by decide) rfl rfl rfl rfl rfl rfl rfl) rfl ?_
 refine wws ?_
 refine qAf (qAc ?_)
 refine wws ?_
 refine qAi (l:=[(0,.d (.str s)),(2,.ptr 1 0),(4,.ptr 2 0),(5,.ptr 3 0)]) (h':=[.dead,.row (cAct 0 0 0 0 [] [] [] [] [] [] [] [] 0 [] false [] [] []),.row [.d (.sl 1 SL),.I 0],.row (cAct 0 0 0 0 [] [] [] [] [] [] [] [] 0 [] false [] [] [])]) yf ⟨trivial,actZ_le 0,⟨.dat,.refl _,trivial⟩,actZ_le 0,trivial⟩ ?_
 refine qAf (qAc ?_)
 refine wws ?_
 refine qAd (qAk (H':=[.dead,.row (cAct 0 0 0 0 [] [] [] [] [] [] [] [] 0 [] false [] [] []),.row [.d (.sl 1 SL),.I 1],.row (cAct 0 0 0 0 [] [] [] [] [] [] [] [] 0 [] false [] [] [])]) rfl rfl n0 [2] (by decide) rfl rfl rfl rfl rfl rfl rfl) rfl ?_
 refine wws ?_
 refine ww ?_
 refine qAn (ι:=Nat) (fun i=>[(0,.d (.str s)),(2,.ptr 1 0),(4,.ptr 2 0),(5,.ptr 3 0),(6,.d (.str W0)),(7,.I (i:Int))]) (fun i=>[.dead,.row (cAct 0 0 0 0 [] [] [] [] [] [] [] [] 0 [] false [] [] []),.row [.d (.sl 1 SL),.I 1],.row (cAct (if (8:Int) < i then 8 else 0:Int) 0 0 0 [] [] [] [] [] [] [] [] 0 [] false [] [] [])]) (fun i=>1≤i∧i≤12) (fun i=>12-i) 1 ⟨by omega,by omega⟩ yf (HLe.refl _) ?_
 rintro i ⟨hi1,hi12⟩
 refine ww ?_
 refine wwc namesR_spec ?_
 refine ww ?_
 by_cases hi:i < 12
 ·refine qAa rfl (fun q=>?_) (fun q=>?_)
  case refine_2 =>
   exfalso
   rw [show (qAg ([]::qBt)).length=12 from rfl] at q
   simp at q
   omega
  have hna:=nameR_at (k:=(i:Int)) (by omega)
  have hnk:=hnk (i:Int) (by omega)
  have hwr:IntKind.i64.wrap ((i:Int)+1)=((i+1:Nat):Int):=by rw [qAh (by omega)];simp
  generalize qAx (i:Int)=nm at hna hnk
  clear q
  refine ww ?_
  refine wwc namesR_spec ?_
  refine ww ?_
  refine wwi hna ?_
  refine ww ?_
  by_cases hik:(i:Int)=8
  ·refine qAa rfl (fun q=>?_) (fun q=>absurd (hnk.2 hik) (by simpa using q))
   have hii:i=8:=by omega
   subst hii
   refine ww ?_
   exact ⟨9,⟨by omega,by omega⟩,by omega,⟨.refl _,.refl _,.refl _,.refl _,.refl _,.int hwr,trivial⟩,HLe.refl _⟩
  ·refine qAa rfl (fun q=>absurd (hnk.1 (by simpa using q)) hik) (fun q=>?_)
   have hkk:(if (8:Int) < i then 8 else 0:Int)=(if (8:Int) < ((i+1:Nat):Int) then 8 else 0:Int):=by split <;> split <;> omega
   refine ww ?_
   exact ⟨i+1,⟨by omega,by omega⟩,by omega,⟨.refl _,.refl _,.refl _,.refl _,.refl _,.int hwr,trivial⟩,by rw [hkk];exact HLe.refl _⟩
 have h12:i=12:=by omega
 subst h12
 refine qAa rfl (fun q=>absurd q (by decide)) (fun q=>?_)
 refine qBr ?_
 refine qAi (l:=[(0,.d (.str s)),(2,.ptr 1 0),(4,.ptr 2 0),(5,.ptr 3 0)]) (h':=[.dead,.row (cAct 0 0 0 0 [] [] [] [] [] [] [] [] 0 [] false [] [] []),.row [.d (.sl 1 SL),.I 1],.row (cAct 8 0 0 0 [] [] [] [] [] [] [] [] 0 [] false [] [] [])]) yf (HLe.refl _) ?_
 clear hnk n0 hc q
 refine wwn ?_
 refine qAa rfl (fun q=>absurd q (by decide)) (fun q=>?_)
 refine wwn ?_
 refine qAa rfl (fun q=>absurd q (by decide)) (fun q=>?_)
 refine wwn ?_
 refine qAa rfl (fun q=>absurd q (by decide)) (fun q=>?_)
 refine wwn ?_
 refine qAa rfl (fun q=>absurd q (by decide)) (fun q=>?_)
 refine wwn ?_
 refine qAa rfl (fun q=>absurd q (by decide)) (fun q=>?_)
 refine wwn ?_
 refine qAa rfl (fun q=>absurd q (by decide)) (fun q=>?_)
 refine wwn ?_
 refine qAa rfl (fun q=>absurd q (by decide)) (fun q=>?_)
 refine wwn ?_
 refine qAa rfl (fun q=>absurd q (by decide)) (fun q=>?_)
 refine wwn ?_
 refine qAa rfl (fun q=>?_) (fun q=>absurd q (by decide))
 refine qAc ?_
 refine wws ?_
 refine qAd (qAk (H':=[.dead,.row (cAct 0 0 0 0 [] [] [] [] [] [] [] [] 0 [] false [] [] []),.row [.d (.sl 1 SL),.I 2],.row (cAct 8 0 0 0 [] [] [] [] [] [] [] [] 0 [] false [] [] [])]) rfl rfl n1 [2] (by decide) rfl rfl rfl rfl rfl rfl rfl) rfl ?_
 refine wws ?_
 refine wwc m1 ?_
 refine wws ?_
 refine qAd (qAk (H':=[.dead,.row (cAct 0 0 0 0 [] [] [] [] [] [] [] [] 0 [] false [] [] []),.row [.d (.sl 1 SL),.I 3],.row (cAct 8 0 0 0 [] [] [] [] [] [] [] [] 0 [] false [] [] [])]) rfl rfl n2 [2] (by decide) rfl rfl rfl rfl rfl rfl rfl) rfl ?_
 refine wws ?_
 refine wwc m2 ?_
 refine wws ?_
 refine qAi (l:=[(0,.d (.str s)),(2,.ptr 1 0),(4,.ptr 2 0),(5,.ptr 3 0)]) (h':=[.dead,.row (cAct 0 0 0 0 [] [] [] [] [] [] [] [] 0 [] false [] [] []),.row [.d (.sl 1 SL),.I 3],.row (cAct 8 (qBj W1) (qBj W2) 0 [] [] [] [] [] [] [] [] 0 [] false [] [] [])]) yf (HLe.refl _) ?_
 refine wwe ?_
 refine qAf (qAf (qAc ?_))
 refine wk hT rfl rfl ?_
 refine wk hT rfl rfl ?_
 refine wk hT rfl rfl ?_
 refine wk hT rfl rfl ?_
 refine qCd (v:=.agg (cAct 8 (qBj W1) (qBj W2) 0 [] [] [] [] [] [] [] [] 0 [] false [] [] [])) rfl rfl rfl (fun hg=>⟨(sg (C:=True) hg).1,qAo (i:=3) (off:=0) hT rfl rfl rfl (qDa rfl)⟩) ?_
 refine wwgc hL ?_
 refine ww ?_
 by_cases hzs:z=s
 ·rw [if_pos hzs]
  refine qAa rfl (fun q=>?_) (fun q=>?_)
  ·exfalso
   rw [hzs] at q
   simp at q
  refine wwe ?_
  refine qAf (qAc ?_)
  refine qAd (qAo (i:=3) (off:=0) hT rfl rfl rfl (qDa rfl)) rfl ?_
  refine qAu (qAp (i:=1) (off:=0) hT rfl rfl rfl (qEl rfl rfl)) (forceS_eq _ _) ?_
  refine ww ?_
  exact rq ⟨rfl,rfl⟩ rfl (.refl _)
 ·rw [if_neg hzs]
  refine qAa rfl (fun q=>?_) (fun q=>?_)
  case refine_2 =>
   exfalso
   simp at q
   exact hzs q
  refine qAf (qAc ?_)
  refine wk hT rfl rfl ?_
  refine qAu (qAp (i:=1) (off:=0) hT rfl rfl rfl (qEl rfl rfl)) (forceS_eq _ _) ?_
  refine ww ?_
  refine rq ⟨rfl,rfl⟩ rfl ?_
  exact AV.le.tup ⟨AV.le.agg (actZ_le 0),.refl _,trivial⟩
theorem qTp (s:List UInt8) (hs:s.length≤1500) (hk:qBh ((spl 32 s).getD 0 [])=9):Spec Tryz.prog 6 [.d (.str s)] [] (fun r h'=>r=.tup [.agg (qBn (readO s).1 []),.d (.int .i64 (readO s).2)]∧h'=[]):=by
 have hc:Spec Tryz.prog 11 [.d (.str s),.d (.int .u8 32)] [.room] (fun r h'=>r=.sl 1 (qAg (spl 32 s)) (.right 0)∧h'=[.right 1 (qAg (spl 32 s)).length]):=cutO_spec 32 s (by omega)
 have hwl:=fun j=>Nat.le_trans (qCy s j) hs
 have hnk:=fun (i:Int) (hi:1≤i∧i≤11)=>qCl hk hi
 have hrf:=readF_kind hk (by decide) (by decide)
 rw [show qBy 9=[.num,.txt] from rfl] at hrf
 simp only [qEu] at hrf
 have hW0:((spl 32 s).getD 0 []).length≤1500:=hwl 0
 have hrf2:qDk s=⟨9,(qBj ((spl 32 s).getD 1 [])),0,0,[],(qBa ((spl 32 s).getD 2 [])),[],[],[],[],[],[],0,[],false,0,0,[],[],[]⟩:=hrf.trans rfl
 rw [readO_k hk (by decide) hrf2]
 clear hrf hrf2
 have hL:=qCi ⟨9,(qBj ((spl 32 s).getD 1 [])),0,0,[],(qBa ((spl 32 s).getD 2 [])),[],[],[],[],[],[],0,[],false,0,0,[],[],[]⟩ [] ⟨rfl,by simp only [List.length_map,List.length_nil];omega,by simp only [List.length_nil];have h1:=qCo ((spl 32 s).getD 2 []);have g1:=hwl 2;omega⟩
 have n0:Spec Tryz.prog 12 [.ptr 0 0] [.row (wdO (spl 32 s) 0)] (fun r h'=>r=.d (.str ((spl 32 s).getD 0 []))∧h'=[.row (wdO (spl 32 s) 1)]):=nextR_spec (spl 32 s) 0 (by omega)
 have n1:Spec Tryz.prog 12 [.ptr 0 0] [.row (wdO (spl 32 s) 1)] (fun r h'=>r=.d (.str ((spl 32 s).getD 1 []))∧h'=[.row (wdO (spl 32 s) 2)]):=nextR_spec (spl 32 s) 1 (by omega)
 have m1:=numberR_spec ((spl 32 s).getD 1 []) (by have:=hwl 1;omega)
 have n2:Spec Tryz.prog 15 [.ptr 0 0] [.row (wdO (spl 32 s) 2)] (fun r h'=>r=.d (.str (qBa ((spl 32 s).getD 2 [])))∧h'=[.row (wdO (spl 32 s) 3)]):=textR45_spec (spl 32 s) 2 (by omega) (by have:=hwl 2;omega)
 clear hwl hk
 generalize (spl 32 s).getD 0 []=W0 at *
 generalize (spl 32 s).getD 1 []=W1 at *
 generalize (spl 32 s).getD 2 []=W2 at *
 generalize spl 32 s=L at *
 generalize hz:lineK ⟨9,(qBj W1),0,0,[],(qBa W2),[],[],[],[],[],[],0,[],false,0,0,[],[],[]⟩=z at hL ⊢
 clear hz
 unfold wdO at *
 unfold qBn at *
 generalize qAg L=SL at *
 simp only at *
 refine qAb hT Tryz.func6 rfl rfl rfl rfl ?_;intro E hE
 refine qAq ?_
 refine qAf (qAc ?_)
 refine wws ?_
 refine qAf (qAc ?_)
 refine wws ?_
 refine qAd (qAk rfl rfl (hc) [0] (by decide) rfl rfl rfl rfl rfl rfl rfl) rfl ?_
 refine wws ?_
 refine qAf (qAc ?_)
 refine wws ?_
 refine qAi (l:=[(0,.d (.str s)),(2,.ptr 1 0),(4,.ptr 2 0),(5,.ptr 3 0)]) (h':=[.dead,.row (cAct 0 0 0 0 [] [] [] [] [] [] [] [] 0 [] false [] [] []),.row [.d (.sl 1 SL),.I 0],.row (cAct 0 0 0 0 [] [] [] [] [] [] [] [] 0 [] false [] [] [])]) yf ⟨trivial,actZ_le 0,⟨.dat,.refl _,trivial⟩,actZ_le 0,trivial⟩ ?_
 refine qAf (qAc ?_)
 refine wws ?_
 refine qAd (qAk (H':=[.dead,.row (cAct 0 0 0 0 [] [] [] [] [] [] [] [] 0 [] false [] [] []),.row [.d (.sl 1 SL),.I 1],.row (cAct 0 0 0 0 [] [] [] [] [] [] [] [] 0 [] false [] [] [])]) rfl rfl n0 [2] (by decide) rfl rfl rfl rfl rfl rfl rfl) rfl ?_
 refine wws ?_
 refine ww ?_
 refine qAn (ι:=Nat) (fun i=>[(0,.d (.str s)),(2,.ptr 1 0),(4,.ptr 2 0),(5,.ptr 3 0),(6,.d (.str W0)),(7,.I (i:Int))]) (fun i=>[.dead,.row (cAct 0 0 0 0 [] [] [] [] [] [] [] [] 0 [] false [] [] []),.row [.d (.sl 1 SL),.I 1],.row (cAct (if (9:Int) < i then 9 else 0:Int) 0 0 0 [] [] [] [] [] [] [] [] 0 [] false [] [] [])]) (fun i=>1≤i∧i≤12) (fun i=>12-i) 1 ⟨by omega,by omega⟩ yf (HLe.refl _) ?_
 rintro i ⟨hi1,hi12⟩
 refine ww ?_
 refine wwc namesR_spec ?_
 refine ww ?_
 by_cases hi:i < 12
 ·refine qAa rfl (fun q=>?_) (fun q=>?_)
  case refine_2 =>
   exfalso
   rw [show (qAg ([]::qBt)).length=12 from rfl] at q
   simp at q
   omega
  have hna:=nameR_at (k:=(i:Int)) (by omega)
  have hnk:=hnk (i:Int) (by omega)
  have hwr:IntKind.i64.wrap ((i:Int)+1)=((i+1:Nat):Int):=by rw [qAh (by omega)];simp
  generalize qAx (i:Int)=nm at hna hnk
  clear q
  refine ww ?_
  refine wwc namesR_spec ?_
  refine ww ?_
  refine wwi hna ?_
  refine ww ?_
  by_cases hik:(i:Int)=9
  ·refine qAa rfl (fun q=>?_) (fun q=>absurd (hnk.2 hik) (by simpa using q))
   have hii:i=9:=by omega
   subst hii
   refine ww ?_
   exact ⟨10,⟨by omega,by omega⟩,by omega,⟨.refl _,.refl _,.refl _,.refl _,.refl _,.int hwr,trivial⟩,HLe.refl _⟩
  ·refine qAa rfl (fun q=>absurd (hnk.1 (by simpa using q)) hik) (fun q=>?_)
   have hkk:(if (9:Int) < i then 9 else 0:Int)=(if (9:Int) < ((i+1:Nat):Int) then 9 else 0:Int):=by split <;> split <;> omega
   refine ww ?_
   exact ⟨i+1,⟨by omega,by omega⟩,by omega,⟨.refl _,.refl _,.refl _,.refl _,.refl _,.int hwr,trivial⟩,by rw [hkk];exact HLe.refl _⟩
 have h12:i=12:=by omega
 subst h12
 refine qAa rfl (fun q=>absurd q (by decide)) (fun q=>?_)
 refine qBr ?_
 refine qAi (l:=[(0,.d (.str s)),(2,.ptr 1 0),(4,.ptr 2 0),(5,.ptr 3 0)]) (h':=[.dead,.row (cAct 0 0 0 0 [] [] [] [] [] [] [] [] 0 [] false [] [] []),.row [.d (.sl 1 SL),.I 1],.row (cAct 9 0 0 0 [] [] [] [] [] [] [] [] 0 [] false [] [] [])]) yf (HLe.refl _) ?_
 clear hnk n0 hc q
 refine wwn ?_
 refine qAa rfl (fun q=>absurd q (by decide)) (fun q=>?_)
 refine wwn ?_
 refine qAa rfl (fun q=>absurd q (by decide)) (fun q=>?_)
 refine wwn ?_
 refine qAa rfl (fun q=>absurd q (by decide)) (fun q=>?_)
 refine wwn ?_
 refine qAa rfl (fun q=>absurd q (by decide)) (fun q=>?_)
 refine wwn ?_
 refine qAa rfl (fun q=>?_) (fun q=>absurd q (by decide))
 refine qAc ?_
 refine wws ?_
 refine qAd (qAk (H':=[.dead,.row (cAct 0 0 0 0 [] [] [] [] [] [] [] [] 0 [] false [] [] []),.row [.d (.sl 1 SL),.I 2],.row (cAct 9 0 0 0 [] [] [] [] [] [] [] [] 0 [] false [] [] [])]) rfl rfl n1 [2] (by decide) rfl rfl rfl rfl rfl rfl rfl) rfl ?_
 refine wws ?_
 refine wwc m1 ?_
 refine wws ?_
 refine qAd (qAk (H':=[.dead,.row (cAct 0 0 0 0 [] [] [] [] [] [] [] [] 0 [] false [] [] []),.row [.d (.sl 1 SL),.I 3],.row (cAct 9 0 0 0 [] [] [] [] [] [] [] [] 0 [] false [] [] [])]) rfl rfl n2 [2] (by decide) rfl rfl rfl rfl rfl rfl rfl) rfl ?_
 refine wws ?_
 refine qAi (l:=[(0,.d (.str s)),(2,.ptr 1 0),(4,.ptr 2 0),(5,.ptr 3 0)]) (h':=[.dead,.row (cAct 0 0 0 0 [] [] [] [] [] [] [] [] 0 [] false [] [] []),.row [.d (.sl 1 SL),.I 3],.row (cAct 9 (qBj W1) 0 0 [] (qBa W2) [] [] [] [] [] [] 0 [] false [] [] [])]) yf (HLe.refl _) ?_
 refine wwe ?_
 refine qAf (qAf (qAc ?_))
 refine wk hT rfl rfl ?_
 refine wk hT rfl rfl ?_
 refine wk hT rfl rfl ?_
 refine wk hT rfl rfl ?_
 refine qCd (v:=.agg (cAct 9 (qBj W1) 0 0 [] (qBa W2) [] [] [] [] [] [] 0 [] false [] [] [])) rfl rfl rfl (fun hg=>⟨(sg (C:=True) hg).1,qAo (i:=3) (off:=0) hT rfl rfl rfl (qDa rfl)⟩) ?_
 refine wwgc hL ?_
 refine ww ?_
 by_cases hzs:z=s
 ·rw [if_pos hzs]
  refine qAa rfl (fun q=>?_) (fun q=>?_)
  ·exfalso
   rw [hzs] at q
   simp at q
  refine wwe ?_
  refine qAf (qAc ?_)
  refine qAd (qAo (i:=3) (off:=0) hT rfl rfl rfl (qDa rfl)) rfl ?_
  refine qAu (qAp (i:=1) (off:=0) hT rfl rfl rfl (qEl rfl rfl)) (forceS_eq _ _) ?_
  refine ww ?_
  exact rq ⟨rfl,rfl⟩ rfl (.refl _)
 ·rw [if_neg hzs]
  refine qAa rfl (fun q=>?_) (fun q=>?_)
  case refine_2 =>
   exfalso
   simp at q
   exact hzs q
  refine qAf (qAc ?_)
  refine wk hT rfl rfl ?_
  refine qAu (qAp (i:=1) (off:=0) hT rfl rfl rfl (qEl rfl rfl)) (forceS_eq _ _) ?_
  refine ww ?_
  refine rq ⟨rfl,rfl⟩ rfl ?_
  exact AV.le.tup ⟨AV.le.agg (actZ_le 0),.refl _,trivial⟩
theorem qQx (s:List UInt8) (hs:s.length≤1500) (hk:qBh ((spl 32 s).getD 0 [])=10):Spec Tryz.prog 6 [.d (.str s)] [] (fun r h'=>r=.tup [.agg (qBn (readO s).1 []),.d (.int .i64 (readO s).2)]∧h'=[]):=by
 have hc:Spec Tryz.prog 11 [.d (.str s),.d (.int .u8 32)] [.room] (fun r h'=>r=.sl 1 (qAg (spl 32 s)) (.right 0)∧h'=[.right 1 (qAg (spl 32 s)).length]):=cutO_spec 32 s (by omega)
 have hwl:=fun j=>Nat.le_trans (qCy s j) hs
 have hnk:=fun (i:Int) (hi:1≤i∧i≤11)=>qCl hk hi
 have hrf:=readF_kind hk (by decide) (by decide)
 rw [show qBy 10=[.num,.num,.nums,.flps] from rfl] at hrf
 simp only [qEu] at hrf
 have hW0:((spl 32 s).getD 0 []).length≤1500:=hwl 0
 have hrf2:qDk s=⟨10,(qBj ((spl 32 s).getD 1 [])),(qBj ((spl 32 s).getD 2 [])),0,[],[],[],[],[],[],[],[],0,[],false,0,0,[],((qBk ((spl 32 s).getD 3 [])).map qBj),((qBk ((spl 32 s).getD 4 [])).map qFb)⟩:=hrf.trans rfl
 rw [readO_k hk (by decide) hrf2]
 clear hrf hrf2
 have hL:=qCi ⟨10,(qBj ((spl 32 s).getD 1 [])),(qBj ((spl 32 s).getD 2 [])),0,[],[],[],[],[],[],[],[],0,[],false,0,0,[],((qBk ((spl 32 s).getD 3 [])).map qBj),((qBk ((spl 32 s).getD 4 [])).map qFb)⟩ [] ⟨rfl,by simp only [List.length_map,List.length_nil];have h2:=qEf ((spl 32 s).getD 3 []);have g2:=hwl 3;have h3:=qEf ((spl 32 s).getD 4 []);have g3:=hwl 4;omega,by simp only [List.length_nil];omega⟩
 have n0:Spec Tryz.prog 12 [.ptr 0 0] [.row (wdO (spl 32 s) 0)] (fun r h'=>r=.d (.str ((spl 32 s).getD 0 []))∧h'=[.row (wdO (spl 32 s) 1)]):=nextR_spec (spl 32 s) 0 (by omega)
 have n1:Spec Tryz.prog 12 [.ptr 0 0] [.row (wdO (spl 32 s) 1)] (fun r h'=>r=.d (.str ((spl 32 s).getD 1 []))∧h'=[.row (wdO (spl 32 s) 2)]):=nextR_spec (spl 32 s) 1 (by omega)
 have m1:=numberR_spec ((spl 32 s).getD 1 []) (by have:=hwl 1;omega)
 have n2:Spec Tryz.prog 12 [.ptr 0 0] [.row (wdO (spl 32 s) 2)] (fun r h'=>r=.d (.str ((spl 32 s).getD 2 []))∧h'=[.row (wdO (spl 32 s) 3)]):=nextR_spec (spl 32 s) 2 (by omega)
 have m2:=numberR_spec ((spl 32 s).getD 2 []) (by have:=hwl 2;omega)
 have n3:Spec Tryz.prog 12 [.ptr 0 0] [.row (wdO (spl 32 s) 3)] (fun r h'=>r=.d (.str ((spl 32 s).getD 3 []))∧h'=[.row (wdO (spl 32 s) 4)]):=nextR_spec (spl 32 s) 3 (by omega)
 have m3:=numbersR_spec ((spl 32 s).getD 3 []) (by have:=hwl 3;omega)
 have n4:Spec Tryz.prog 12 [.ptr 0 0] [.row (wdO (spl 32 s) 4)] (fun r h'=>r=.d (.str ((spl 32 s).getD 4 []))∧h'=[.row (wdO (spl 32 s) 5)]):=nextR_spec (spl 32 s) 4 (by omega)
 have m4:=linksR_spec ((spl 32 s).getD 4 []) (by have:=hwl 4;omega)
 clear hwl hk
 generalize (spl 32 s).getD 0 []=W0 at *
 generalize (spl 32 s).getD 1 []=W1 at *
 generalize (spl 32 s).getD 2 []=W2 at *
 generalize (spl 32 s).getD 3 []=W3 at *
 generalize (spl 32 s).getD 4 []=W4 at *
 generalize spl 32 s=L at *
 generalize hz:lineK ⟨10,(qBj W1),(qBj W2),0,[],[],[],[],[],[],[],[],0,[],false,0,0,[],((qBk W3).map qBj),((qBk W4).map qFb)⟩=z at hL ⊢
 clear hz
 unfold wdO at *
 unfold qBn at *
 generalize qAg L=SL at *
 simp only at *
 refine qAb hT Tryz.func6 rfl rfl rfl rfl ?_;intro E hE
 refine qAq ?_
 refine qAf (qAc ?_)
 refine wws ?_
 refine qAf (qAc ?_)
 refine wws ?_
 refine qAd (qAk rfl rfl (hc) [0] (by decide) rfl rfl rfl rfl rfl rfl rfl) rfl ?_
 refine wws ?_
 refine qAf (qAc ?_)
 refine wws ?_
 refine qAi (l:=[(0,.d (.str s)),(2,.ptr 1 0),(4,.ptr 2 0),(5,.ptr 3 0)]) (h':=[.dead,.row (cAct 0 0 0 0 [] [] [] [] [] [] [] [] 0 [] false [] [] []),.row [.d (.sl 1 SL),.I 0],.row (cAct 0 0 0 0 [] [] [] [] [] [] [] [] 0 [] false [] [] [])]) yf ⟨trivial,actZ_le 0,⟨.dat,.refl _,trivial⟩,actZ_le 0,trivial⟩ ?_
 refine qAf (qAc ?_)
 refine wws ?_
 refine qAd (qAk (H':=[.dead,.row (cAct 0 0 0 0 [] [] [] [] [] [] [] [] 0 [] false [] [] []),.row [.d (.sl 1 SL),.I 1],.row (cAct 0 0 0 0 [] [] [] [] [] [] [] [] 0 [] false [] [] [])]) rfl rfl n0 [2] (by decide) rfl rfl rfl rfl rfl rfl rfl) rfl ?_
 refine wws ?_
 refine ww ?_
 refine qAn (ι:=Nat) (fun i=>[(0,.d (.str s)),(2,.ptr 1 0),(4,.ptr 2 0),(5,.ptr 3 0),(6,.d (.str W0)),(7,.I (i:Int))]) (fun i=>[.dead,.row (cAct 0 0 0 0 [] [] [] [] [] [] [] [] 0 [] false [] [] []),.row [.d (.sl 1 SL),.I 1],.row (cAct (if (10:Int) < i then 10 else 0:Int) 0 0 0 [] [] [] [] [] [] [] [] 0 [] false [] [] [])]) (fun i=>1≤i∧i≤12) (fun i=>12-i) 1 ⟨by omega,by omega⟩ yf (HLe.refl _) ?_
 rintro i ⟨hi1,hi12⟩
 refine ww ?_
 refine wwc namesR_spec ?_
 refine ww ?_
 by_cases hi:i < 12
 ·refine qAa rfl (fun q=>?_) (fun q=>?_)
  case refine_2 =>
   exfalso
   rw [show (qAg ([]::qBt)).length=12 from rfl] at q
   simp at q
   omega
  have hna:=nameR_at (k:=(i:Int)) (by omega)
  have hnk:=hnk (i:Int) (by omega)
  have hwr:IntKind.i64.wrap ((i:Int)+1)=((i+1:Nat):Int):=by rw [qAh (by omega)];simp
  generalize qAx (i:Int)=nm at hna hnk
  clear q
  refine ww ?_
  refine wwc namesR_spec ?_
  refine ww ?_
  refine wwi hna ?_
  refine ww ?_
  by_cases hik:(i:Int)=10
  ·refine qAa rfl (fun q=>?_) (fun q=>absurd (hnk.2 hik) (by simpa using q))
   have hii:i=10:=by omega
   subst hii
   refine ww ?_
   exact ⟨11,⟨by omega,by omega⟩,by omega,⟨.refl _,.refl _,.refl _,.refl _,.refl _,.int hwr,trivial⟩,HLe.refl _⟩
  ·refine qAa rfl (fun q=>absurd (hnk.1 (by simpa using q)) hik) (fun q=>?_)
   have hkk:(if (10:Int) < i then 10 else 0:Int)=(if (10:Int) < ((i+1:Nat):Int) then 10 else 0:Int):=by split <;> split <;> omega
   refine ww ?_
   exact ⟨i+1,⟨by omega,by omega⟩,by omega,⟨.refl _,.refl _,.refl _,.refl _,.refl _,.int hwr,trivial⟩,by rw [hkk];exact HLe.refl _⟩
 have h12:i=12:=by omega
 subst h12
 refine qAa rfl (fun q=>absurd q (by decide)) (fun q=>?_)
 refine qBr ?_
 refine qAi (l:=[(0,.d (.str s)),(2,.ptr 1 0),(4,.ptr 2 0),(5,.ptr 3 0)]) (h':=[.dead,.row (cAct 0 0 0 0 [] [] [] [] [] [] [] [] 0 [] false [] [] []),.row [.d (.sl 1 SL),.I 1],.row (cAct 10 0 0 0 [] [] [] [] [] [] [] [] 0 [] false [] [] [])]) yf (HLe.refl _) ?_
 clear hnk n0 hc q
 refine wwn ?_
 refine qAa rfl (fun q=>absurd q (by decide)) (fun q=>?_)
 refine wwn ?_
 refine qAa rfl (fun q=>absurd q (by decide)) (fun q=>?_)
 refine wwn ?_
 refine qAa rfl (fun q=>absurd q (by decide)) (fun q=>?_)
 refine wwn ?_
 refine qAa rfl (fun q=>absurd q (by decide)) (fun q=>?_)
 refine wwn ?_
 refine qAa rfl (fun q=>absurd q (by decide)) (fun q=>?_)
 refine wwn ?_
 refine qAa rfl (fun q=>absurd q (by decide)) (fun q=>?_)
 refine wwn ?_
 refine qAa rfl (fun q=>absurd q (by decide)) (fun q=>?_)
 refine wwn ?_
 refine qAa rfl (fun q=>absurd q (by decide)) (fun q=>?_)
 refine wwn ?_
 refine qAa rfl (fun q=>absurd q (by decide)) (fun q=>?_)
 refine wwn ?_
 refine qAa rfl (fun q=>absurd q (by decide)) (fun q=>?_)
 refine wwn ?_
 refine qAa rfl (fun q=>?_) (fun q=>absurd q (by decide))
 refine qAf (qAc ?_)
 refine wws ?_
 refine qAd (qAk (H':=[.dead,.row (cAct 0 0 0 0 [] [] [] [] [] [] [] [] 0 [] false [] [] []),.row [.d (.sl 1 SL),.I 2],.row (cAct 10 0 0 0 [] [] [] [] [] [] [] [] 0 [] false [] [] [])]) rfl rfl n1 [2] (by decide) rfl rfl rfl rfl rfl rfl rfl) rfl ?_
 refine wws ?_
 refine wwc m1 ?_
 refine wws ?_
 refine qAd (qAk (H':=[.dead,.row (cAct 0 0 0 0 [] [] [] [] [] [] [] [] 0 [] false [] [] []),.row [.d (.sl 1 SL),.I 3],.row (cAct 10 0 0 0 [] [] [] [] [] [] [] [] 0 [] false [] [] [])]) rfl rfl n2 [2] (by decide) rfl rfl rfl rfl rfl rfl rfl) rfl ?_
 refine wws ?_
 refine wwc m2 ?_
 refine wws ?_
 refine qAi (l:=[(0,.d (.str s)),(2,.ptr 1 0),(4,.ptr 2 0),(5,.ptr 3 0)]) (h':=[.dead,.row (cAct 0 0 0 0 [] [] [] [] [] [] [] [] 0 [] false [] [] []),.row [.d (.sl 1 SL),.I 3],.row (cAct 10 (qBj W1) (qBj W2) 0 [] [] [] [] [] [] [] [] 0 [] false [] [] [])]) yf (HLe.refl _) ?_
 refine qAc ?_
 refine wws ?_
 refine qAd (qAk (H':=[.dead,.row (cAct 0 0 0 0 [] [] [] [] [] [] [] [] 0 [] false [] [] []),.row [.d (.sl 1 SL),.I 4],.row (cAct 10 (qBj W1) (qBj W2) 0 [] [] [] [] [] [] [] [] 0 [] false [] [] [])]) rfl rfl n3 [2] (by decide) rfl rfl rfl rfl rfl rfl rfl) rfl ?_
 refine wws ?_
 refine wwc m3 ?_
 refine wws ?_
 refine qAd (qAk (H':=[.dead,.row (cAct 0 0 0 0 [] [] [] [] [] [] [] [] 0 [] false [] [] []),.row [.d (.sl 1 SL),.I 5],.row (cAct 10 (qBj W1) (qBj W2) 0 [] [] [] [] [] [] [] [] 0 [] false [] [] [])]) rfl rfl n4 [2] (by decide) rfl rfl rfl rfl rfl rfl rfl) rfl ?_
 refine wws ?_
 refine wwc m4 ?_
 refine wws ?_
 refine qAi (l:=[(0,.d (.str s)),(2,.ptr 1 0),(4,.ptr 2 0),(5,.ptr 3 0)]) (h':=[.dead,.row (cAct 0 0 0 0 [] [] [] [] [] [] [] [] 0 [] false [] [] []),.row [.d (.sl 1 SL),.I 5],.row (cAct 10 (qBj W1) (qBj W2) 0 [] [] [] [] [] [] [] [] 0 [] false [] (qAl ((qBk W3).map qBj)) (qAr ((qBk W4).map qFb)))]) yf (HLe.refl _) ?_
 refine wwe ?_
 refine qAf (qAf (qAc ?_))
 refine wk hT rfl rfl ?_
 refine wk hT rfl rfl ?_
 refine wk hT rfl rfl ?_
 refine wk hT rfl rfl ?_
 refine qCd (v:=.agg (cAct 10 (qBj W1) (qBj W2) 0 [] [] [] [] [] [] [] [] 0 [] false [] (qAl ((qBk W3).map qBj)) (qAr ((qBk W4).map qFb)))) rfl rfl rfl (fun hg=>⟨(sg (C:=True) hg).1,qAo (i:=3) (off:=0) hT rfl rfl rfl (qDa rfl)⟩) ?_
 refine wwgc hL ?_
 refine ww ?_
 by_cases hzs:z=s
 ·rw [if_pos hzs]
  refine qAa rfl (fun q=>?_) (fun q=>?_)
  ·exfalso
   rw [hzs] at q
   simp at q
  refine wwe ?_
  refine qAf (qAc ?_)
  refine qAd (qAo (i:=3) (off:=0) hT rfl rfl rfl (qDa rfl)) rfl ?_
  refine qAu (qAp (i:=1) (off:=0) hT rfl rfl rfl (qEl rfl rfl)) (forceS_eq _ _) ?_
  refine ww ?_
  exact rq ⟨rfl,rfl⟩ rfl (.refl _)
 ·rw [if_neg hzs]
  refine qAa rfl (fun q=>?_) (fun q=>?_)
  case refine_2 =>
   exfalso
   simp at q
   exact hzs q
  refine qAf (qAc ?_)
  refine wk hT rfl rfl ?_
  refine qAu (qAp (i:=1) (off:=0) hT rfl rfl rfl (qEl rfl rfl)) (forceS_eq _ _) ?_
  refine ww ?_
  refine rq ⟨rfl,rfl⟩ rfl ?_
  exact AV.le.tup ⟨AV.le.agg (actZ_le 0),.refl _,trivial⟩
theorem qQw (s:List UInt8) (hs:s.length≤1500) (hk:qBh ((spl 32 s).getD 0 [])=11):Spec Tryz.prog 6 [.d (.str s)] [] (fun r h'=>r=.tup [.agg (qBn (readO s).1 []),.d (.int .i64 (readO s).2)]∧h'=[]):=by
 have hc:Spec Tryz.prog 11 [.d (.str s),.d (.int .u8 32)] [.room] (fun r h'=>r=.sl 1 (qAg (spl 32 s)) (.right 0)∧h'=[.right 1 (qAg (spl 32 s)).length]):=cutO_spec 32 s (by omega)
 have hwl:=fun j=>Nat.le_trans (qCy s j) hs
 have hnk:=fun (i:Int) (hi:1≤i∧i≤11)=>qCl hk hi
 have hrf:=readF_11 hk
 have hjl:∀ j,(joi 32 (((spl 32 s).drop 2).take j)).length≤10000000:=fun j=>by
  have h1:=qEw 32 1500 (((spl 32 s).drop 2).take j) (fun v hv=>Nat.le_trans (qBs s v (List.mem_of_mem_drop (List.mem_of_mem_take hv))) hs)
  have h2:(spl 32 s).length≤1501:=by rw [qCt];have:=List.count_le_length (a:=(32:UInt8)) (l:=s);omega
  have h3:(((spl 32 s).drop 2).take j).length≤1501:=by rw [List.length_take,List.length_drop];omega
  have h4:=Nat.mul_le_mul_right 1501 h3
  omega
 have htx:(joi 32 ((spl 32 s).drop 2)).length≤1500:=qPo hs
 have hW0:((spl 32 s).getD 0 []).length≤1500:=hwl 0
 have hrf2:qDk s=⟨11,0,0,0,(qBa ((spl 32 s).getD 1 [])),(joi 32 ((spl 32 s).drop 2)),[],[],[],[],[],[],0,[],false,0,0,[],[],[]⟩:=hrf.trans rfl
 rw [readO_k hk (by decide) hrf2]
 clear hrf hrf2
 have hL:=qCi ⟨11,0,0,0,(qBa ((spl 32 s).getD 1 [])),(joi 32 ((spl 32 s).drop 2)),[],[],[],[],[],[],0,[],false,0,0,[],[],[]⟩ [] ⟨rfl,by simp only [List.length_map,List.length_nil];omega,by simp only [List.length_nil];have h0:=qCo ((spl 32 s).getD 1 []);have g0:=hwl 1;omega⟩
 have n0:Spec Tryz.prog 12 [.ptr 0 0] [.row (wdO (spl 32 s) 0)] (fun r h'=>r=.d (.str ((spl 32 s).getD 0 []))∧h'=[.row (wdO (spl 32 s) 1)]):=nextR_spec (spl 32 s) 0 (by omega)
 have n1:Spec Tryz.prog 15 [.ptr 0 0] [.row (wdO (spl 32 s) 1)] (fun r h'=>r=.d (.str (qBa ((spl 32 s).getD 1 [])))∧h'=[.row (wdO (spl 32 s) 2)]):=textR45_spec (spl 32 s) 1 (by omega) (by have:=hwl 1;omega)
 have hel:=strsAV_length ((spl 32 s))
 have hll:(spl 32 s).length≤1501:=by rw [qCt];have:=List.count_le_length (a:=(32:UInt8)) (l:=s);omega
 have hat:=fun (j:Nat) (hj:j < (spl 32 s).length)=>strsAV_at hj
 have hjp:=fun (j:Nat) (hj:j < ((spl 32 s).drop 2).length)=>vCn 32 ((spl 32 s).drop 2) hj
 have hwm:∀ v,v∈spl 32 s→v.length≤1500:=fun v hv=>Nat.le_trans (qBs s v hv) hs
 clear hwl hk
 generalize (spl 32 s).getD 0 []=W0 at *
 generalize (spl 32 s).getD 1 []=W1 at *
 generalize spl 32 s=L at *
 generalize hz:lineK ⟨11,0,0,0,(qBa W1),(joi 32 (L.drop 2)),[],[],[],[],[],[],0,[],false,0,0,[],[],[]⟩=z at hL ⊢
 clear hz
 unfold wdO at *
 unfold qBn at *
 generalize qAg L=SL at *
 simp only at *
 refine qAb hT Tryz.func6 rfl rfl rfl rfl ?_;intro E hE
 refine qAq ?_
 refine qAf (qAc ?_)
 refine wws ?_
 refine qAf (qAc ?_)
 refine wws ?_
 refine qAd (qAk rfl rfl (hc) [0] (by decide) rfl rfl rfl rfl rfl rfl rfl) rfl ?_
 refine wws ?_
 refine qAf (qAc ?_)
 refine wws ?_
 refine qAi (l:=[(0,.d (.str s)),(2,.ptr 1 0),(4,.ptr 2 0),(5,.ptr 3 0)]) (h':=[.dead,.row (cAct 0 0 0 0 [] [] [] [] [] [] [] [] 0 [] false [] [] []),.row [.d (.sl 1 SL),.I 0],.row (cAct 0 0 0 0 [] [] [] [] [] [] [] [] 0 [] false [] [] [])]) yf ⟨trivial,actZ_le 0,⟨.dat,.refl _,trivial⟩,actZ_le 0,trivial⟩ ?_
 refine qAf (qAc ?_)
 refine wws ?_
 refine qAd (qAk (H':=[.dead,.row (cAct 0 0 0 0 [] [] [] [] [] [] [] [] 0 [] false [] [] []),.row [.d (.sl 1 SL),.I 1],.row (cAct 0 0 0 0 [] [] [] [] [] [] [] [] 0 [] false [] [] [])]) rfl rfl n0 [2] (by decide) rfl rfl rfl rfl rfl rfl rfl) rfl ?_
 refine wws ?_
 refine ww ?_
 refine qAn (ι:=Nat) (fun i=>[(0,.d (.str s)),(2,.ptr 1 0),(4,.ptr 2 0),(5,.ptr 3 0),(6,.d (.str W0)),(7,.I (i:Int))]) (fun i=>[.dead,.row (cAct 0 0 0 0 [] [] [] [] [] [] [] [] 0 [] false [] [] []),.row [.d (.sl 1 SL),.I 1],.row (cAct (if (11:Int) < i then 11 else 0:Int) 0 0 0 [] [] [] [] [] [] [] [] 0 [] false [] [] [])]) (fun i=>1≤i∧i≤12) (fun i=>12-i) 1 ⟨by omega,by omega⟩ yf (HLe.refl _) ?_
 rintro i ⟨hi1,hi12⟩
 refine ww ?_
 refine wwc namesR_spec ?_
 refine ww ?_
 by_cases hi:i < 12
 ·refine qAa rfl (fun q=>?_) (fun q=>?_)
  case refine_2 =>
   exfalso
   rw [show (qAg ([]::qBt)).length=12 from rfl] at q
   simp at q
   omega
  have hna:=nameR_at (k:=(i:Int)) (by omega)
  have hnk:=hnk (i:Int) (by omega)
  have hwr:IntKind.i64.wrap ((i:Int)+1)=((i+1:Nat):Int):=by rw [qAh (by omega)];simp
  generalize qAx (i:Int)=nm at hna hnk
  clear q
  refine ww ?_
  refine wwc namesR_spec ?_
  refine ww ?_
  refine wwi hna ?_
  refine ww ?_
  by_cases hik:(i:Int)=11
  ·refine qAa rfl (fun q=>?_) (fun q=>absurd (hnk.2 hik) (by simpa using q))
   have hii:i=11:=by omega
   subst hii
   refine ww ?_
   exact ⟨12,⟨by omega,by omega⟩,by omega,⟨.refl _,.refl _,.refl _,.refl _,.refl _,.int hwr,trivial⟩,HLe.refl _⟩
  ·refine qAa rfl (fun q=>absurd (hnk.1 (by simpa using q)) hik) (fun q=>?_)
   have hkk:(if (11:Int) < i then 11 else 0:Int)=(if (11:Int) < ((i+1:Nat):Int) then 11 else 0:Int):=by split <;> split <;> omega
   refine ww ?_
   exact ⟨i+1,⟨by omega,by omega⟩,by omega,⟨.refl _,.refl _,.refl _,.refl _,.refl _,.int hwr,trivial⟩,by rw [hkk];exact HLe.refl _⟩
 have h12:i=12:=by omega
 subst h12
 refine qAa rfl (fun q=>absurd q (by decide)) (fun q=>?_)
 refine qBr ?_
 refine qAi (l:=[(0,.d (.str s)),(2,.ptr 1 0),(4,.ptr 2 0),(5,.ptr 3 0)]) (h':=[.dead,.row (cAct 0 0 0 0 [] [] [] [] [] [] [] [] 0 [] false [] [] []),.row [.d (.sl 1 SL),.I 1],.row (cAct 11 0 0 0 [] [] [] [] [] [] [] [] 0 [] false [] [] [])]) yf (HLe.refl _) ?_
 clear hnk n0 hc q
 refine wwn ?_
 refine qAa rfl (fun q=>absurd q (by decide)) (fun q=>?_)
 refine wwn ?_
 refine qAa rfl (fun q=>absurd q (by decide)) (fun q=>?_)
 refine wwn ?_
 refine qAa rfl (fun q=>?_) (fun q=>absurd q (by decide))
 refine qAf (qAc ?_)
 refine wws ?_
 refine qAd (qAk (H':=[.dead,.row (cAct 0 0 0 0 [] [] [] [] [] [] [] [] 0 [] false [] [] []),.row [.d (.sl 1 SL),.I 2],.row (cAct 11 0 0 0 [] [] [] [] [] [] [] [] 0 [] false [] [] [])]) rfl rfl n1 [2] (by decide) rfl rfl rfl rfl rfl rfl rfl) rfl ?_
 refine wws ?_
 refine qAi (l:=[(0,.d (.str s)),(2,.ptr 1 0),(4,.ptr 2 0),(5,.ptr 3 0)]) (h':=[.dead,.row (cAct 0 0 0 0 [] [] [] [] [] [] [] [] 0 [] false [] [] []),.row [.d (.sl 1 SL),.I 2],.row (cAct 11 0 0 0 (qBa W1) [] [] [] [] [] [] [] 0 [] false [] [] [])]) yf (HLe.refl _) ?_
 refine ww ?_
 refine qAn (ι:=Nat) (fun j=>[(0,.d (.str s)),(2,.ptr 1 0),(4,.ptr 2 0),(5,.ptr 3 0),(8,.I ((j+2:Nat):Int))]) (fun j=>[.dead,.row (cAct 0 0 0 0 [] [] [] [] [] [] [] [] 0 [] false [] [] []),.row [.d (.sl 1 SL),.I 2],.row (cAct 11 0 0 0 (qBa W1) (joi 32 ((L.drop 2).take j)) [] [] [] [] [] [] 0 [] false [] [] [])]) (fun j=>j≤(L.drop 2).length) (fun j=>(L.drop 2).length-j) 0 (Nat.zero_le _) yf (HLe.refl _) ?_
 intro j hj
 have hjl1:=hjl j
 have hdl:(L.drop 2).length=L.length-2:=List.length_drop
 refine ww ?_
 by_cases hj2:j < (L.drop 2).length
 ·refine qAa rfl (fun q=>?_) (fun q=>?_)
  case refine_2 =>
   exfalso
   rw [hel] at q
   simp at q
   omega
  have hat:=hat (j+2) (by omega)
  have hjp:=hjp j hj2
  have hgd:(L.drop 2)[j]=L[j+2]'(by omega):=by rw [List.getElem_drop];simp only [Nat.add_comm]
  rw [hgd] at hjp
  have hvl:=hwm _ (List.getElem_mem (show j+2 < L.length by omega))
  generalize L[j+2]'(by omega)=v at hat hjp hvl
  generalize joi 32 ((L.drop 2).take j)=p0 at hjl1 hjp ⊢
  have hpl:(qOw 32 j p0).length≤10000001:=by unfold qOw;split <;> (try simp) <;> omega
  have hpe:∀ h0:j=0,qOw 32 j p0=p0:=fun h0=>if_pos h0
  have hpn:∀ h0:¬ j=0,qOw 32 j p0=p0++[32]:=fun h0=>if_neg h0
  generalize qOw 32 j p0=p at hjp hpl hpe hpn
  generalize hJ:joi 32 ((L.drop 2).take (j+1))=J1 at hjp
  subst hjp
  clear q
  refine ww ?_
  refine qHn (Q:=fun e τ h=>e=.normal∧SubL τ [(0,.d (.str s)),(2,.ptr 1 0),(4,.ptr 2 0),(5,.ptr 3 0),(8,.I ((j+2:Nat):Int))]∧HLe h [.dead,.row (cAct 0 0 0 0 [] [] [] [] [] [] [] [] 0 [] false [] [] []),.row [.d (.sl 1 SL),.I 2],.row (cAct 11 0 0 0 (qBa W1) p [] [] [] [] [] [] 0 [] false [] [] [])]) ?_ ?_
  ·by_cases h0:j=0
   ·refine qAa rfl (fun q=>absurd q (by simp;omega)) (fun q=>?_)
    refine ww ?_
    exact ⟨rfl,yf,by rw [hpe h0];exact HLe.refl _⟩
   ·refine qAa rfl (fun q=>?_) (fun q=>absurd q (by simp;omega))
    refine ww ?_
    exact ⟨rfl,yf,by rw [hpn h0];exact HLe.refl _⟩
  rintro e τ h ⟨rfl,hsub,hle⟩
  refine qAi hsub hle ?_
  clear hsub hle
  refine wwn ?_
  refine qAv (fun i=>bif Nat.beq i 1||Nat.beq i 11 then [3] else bif Nat.beq i 5 then [2] else []) (fun i=>bif Nat.beq i 11 then [3] else []) mixed (by kernel_rfl) ?_
  refine wwg ?_
  refine qAm (os:=[]) (fun k hk hr=>qAe (indexAddr_ok hT rfl rfl rfl rfl (by omega) hat)) rfl ?_
  refine wwg ?_
  refine ww ?_
  exact ⟨j+1,hj2,by omega,⟨.refl _,.refl _,.refl _,.refl _,.int (by rw [qAh (by omega)];omega),trivial⟩,by rw [hJ];exact HLe.refl _⟩
 have hj3:j=(L.drop 2).length:=by omega
 subst hj3
 rw [List.take_length]
 refine qAa rfl (fun q=>?_) (fun q=>?_)
 ·exfalso
  rw [hel] at q
  simp at q
  omega
 refine qBr ?_
 refine qAi (l:=[(0,.d (.str s)),(2,.ptr 1 0),(4,.ptr 2 0),(5,.ptr 3 0)]) (h':=[.dead,.row (cAct 0 0 0 0 [] [] [] [] [] [] [] [] 0 [] false [] [] []),.row [.d (.sl 1 SL),.I 2],.row (cAct 11 0 0 0 (qBa W1) (joi 32 (L.drop 2)) [] [] [] [] [] [] 0 [] false [] [] [])]) yf (HLe.refl _) ?_
 clear hjp hat hjl
 refine wwe ?_
 refine qAf (qAf (qAc ?_))
 refine wk hT rfl rfl ?_
 refine wk hT rfl rfl ?_
 refine wk hT rfl rfl ?_
 refine wk hT rfl rfl ?_
 refine qCd (v:=.agg (cAct 11 0 0 0 (qBa W1) (joi 32 (L.drop 2)) [] [] [] [] [] [] 0 [] false [] [] [])) rfl rfl rfl (fun hg=>⟨(sg (C:=True) hg).1,qAo (i:=3) (off:=0) hT rfl rfl rfl (qDa rfl)⟩) ?_
 refine wwgc hL ?_
 refine ww ?_
 by_cases hzs:z=s
 ·rw [if_pos hzs]
  refine qAa rfl (fun q=>?_) (fun q=>?_)
  ·exfalso
   rw [hzs] at q
   simp at q
  refine wwe ?_
  refine qAf (qAc ?_)
  refine qAd (qAo (i:=3) (off:=0) hT rfl rfl rfl (qDa rfl)) rfl ?_
  refine qAu (qAp (i:=1) (off:=0) hT rfl rfl rfl (qEl rfl rfl)) (forceS_eq _ _) ?_
  refine ww ?_
  exact rq ⟨rfl,rfl⟩ rfl (.refl _)
 ·rw [if_neg hzs]
  refine qAa rfl (fun q=>?_) (fun q=>?_)
  case refine_2 =>
   exfalso
   simp at q
   exact hzs q
  refine qAf (qAc ?_)
  refine wk hT rfl rfl ?_
  refine qAu (qAp (i:=1) (off:=0) hT rfl rfl rfl (qEl rfl rfl)) (forceS_eq _ _) ?_
  refine ww ?_
  refine rq ⟨rfl,rfl⟩ rfl ?_
  exact AV.le.tup ⟨AV.le.agg (actZ_le 0),.refl _,trivial⟩
end Tdoc
