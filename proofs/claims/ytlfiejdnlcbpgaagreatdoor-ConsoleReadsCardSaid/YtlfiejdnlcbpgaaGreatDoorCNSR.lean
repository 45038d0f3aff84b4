/- Scans over a program's functions, told over the list: the kernel then walks the list once and not once for each place. No program is named. -/
import Derived.LaidByTextLater
import Derived.SevenTiedAt
import Derived.LaidSub
import Derived.LaidOnce
namespace Tdoc
open Go
def hits:List Func→String→Nat→List Nat
 | [],_,_=>[]
 | f::r,n,i=>bif f.name == n then i::hits r n (i+1) else hits r n (i+1)
theorem qLi (L:List Func) (n:String):∀ (M:List Func) (i:Nat),(∀ k,M[k]?=L[i+k]?)→(List.range' i M.length).filter (fun j=>(L[j]?).any (·.name == n))=hits M n i
 | [],i,h=>rfl
 | f::r,i,h=>by
  have h0:L[i]?=some f:=by have:=h 0;simp at this;exact this.symm
  have hr:=qLi L n r (i+1) (fun k=>by have:=h (k+1);rw [List.getElem?_cons_succ] at this;rw [this];congr 1;omega)
  rw [List.length_cons,List.range'_succ,List.filter_cons,hr,h0,Option.any_some]
  show _=bif f.name == n then i::hits r n (i+1) else hits r n (i+1)
  cases f.name == n <;> rfl
theorem funcNamed_hits {P:Program} {n:String} {k:Nat} (h:hits P.funcs.toList n 0=[k]):P.funcNamed n=some k:=by
 have:=qLi P.funcs.toList n P.funcs.toList 0 (fun k=>by rw [Nat.zero_add])
 rw [h] at this
 unfold Program.funcNamed
 have e:(List.range P.funcs.size).filter (fun i=>(P.funcs[i]?).any (·.name == n))=[k]:=by
  rw [List.range_eq_range',← this]
  simp only [Array.getElem?_toList,Array.length_toList]
 rw [e]
theorem qWe {P:Program} {p:Func→Bool} {b:Bool} (h:P.funcs.toList.any p=b):P.funcs.any p=b:=by rw [← h,Array.any_toList]
theorem qWg {P:Program} {p:Func→Bool} {b:Bool} (h:P.funcs.toList.all p=b):P.funcs.all p=b:=by rw [← h,Array.all_toList]
theorem qHa {P:Program} {w:String} {b:Bool} (h:(P.funcs.toList.any fun fn=>fn.body.isNone&&fn.name == w)=b):P.worded w=b:=qWe h
theorem varsId_hits {P:Program} {k:Nat} (h:P.funcNamed "gosem.cut.vars" = some k):varsId P=k:=by unfold varsId;rw [h];rfl
theorem vHb {P:Program} {laid:List (String×DataW Unit)} {kinds:List LaidKind} (n fuel M k:Nat)
  (hw:P.worded (varsWordLater true)=true) (hw':P.worded (varsWordLater !true)=false) (hroot:P.worded rootWordLater=true) (hk:laid.map (fun x=>P.kindOfLater x.1)=kinds.map some)
  (hg:P.funcNamed "gosem.cut.vars" = some k) (hn:varsNamedLaterB P k laid=true)
  (hrun:∀ os tape,(match runN P n (Machine.entering P (World.unlaid P os) tape k ⟨#[],#[],[]⟩) with
   | .ended (.done _) w =>
    (DataW.laidRun P w.memory fuel ((laid.filter fun x=>x.2.handleName?.isNone).map (·.1))).bind fun x =>
     if nodupBits M x.2 0&&laidRowsB P w.memory x.2&&(laid.filter fun x=>x.2.handleName?.isSome&&x.2.funcsIn?.isNone).all (handleAtB P w.memory)
     then (funcsRun P w.memory fuel ((funcsListed laid).map (·.1))).map fun y=>(x.1,y) else none
   | _=>none)=some (laid.filter fun x=>x.2.handleName?.isNone,(funcsListed laid).map (·.2.funcsOut))) :
  P.laidByTextLater laid kinds true:=by
 have hv:=varsId_hits hg
 refine Program.laidByTextLater_by_one n fuel M hw hw' hroot hk (by rw [hg];rfl) (by rw [hv];exact hn) (fun os tape=>?_)
 unfold doorLeaves
 rw [hv]
 exact hrun os tape
theorem qKz {n:Nat} {p:Nat→Bool} (a b c d:Nat) (hn:a+b+c+d=n) (h1:(List.range' 0 a).all p=true) (h2:(List.range' a b).all p=true) (h3:(List.range' (a+b) c).all p=true) (h4:(List.range' (a+b+c) d).all p=true):(List.range n).all p=true:=by
 refine List.all_eq_true.2 fun x hx=>?_
 have hx:=List.mem_range.1 hx
 by_cases ha:x < a
 ·exact List.all_eq_true.1 h1 x (List.mem_range'_1.2 ⟨by omega,by omega⟩)
 by_cases hb:x < a+b
 ·exact List.all_eq_true.1 h2 x (List.mem_range'_1.2 ⟨by omega,by omega⟩)
 by_cases hc:x < a+b+c
 ·exact List.all_eq_true.1 h3 x (List.mem_range'_1.2 ⟨by omega,by omega⟩)
 ·exact List.all_eq_true.1 h4 x (List.mem_range'_1.2 ⟨by omega,by omega⟩)
def qIa (P:Program) (t:Nat):Bool:=match P.underlying t with
 | some (.map _ e)=>decide (e < P.types.size)
 | _=>true
theorem mapsRowed_of {P:Program} (h:(List.range P.types.size).all (qIa P)=true):mapsRowed P=true:=h
def qIc (P:Program) (t:Nat):Bool:=match P.underlying t with
 | some (.map k _)=>(match P.underlying k with
  | some (.array _ _) | some (.struct _)=>false
  | _=>true)
 | _=>true
theorem plainKeys_of {P:Program} (h:(List.range P.types.size).all (qIc P)=true):P.plainKeys=true:=h
theorem laidOut_of {P:Program} (h1:(List.range P.types.size).all (rowFine P)=true) (h2:P.globals.all (fun g=>decide (g.type < P.types.size))=true) (h3:P.funcs.all (fun f=>f.params.all fun t=>decide (t < P.types.size))=true):laidOutB P=true:=by
 unfold laidOutB
 rw [h1,h2,h3]
 rfl
theorem laidMet_bits {P:Program} {w:World} {l:List (String×DataW Unit)} (fuel M:Nat)
  (h:((DataW.laidRun P w fuel (l.map (·.1))).bind fun x=>if nodupBits M x.2 0&&laidRowsB P w x.2 then some x.1 else none)=some l):laidMet P l w:=by
 simp only [Option.bind_eq_some_iff] at h
 obtain ⟨x,hx,d⟩:=h
 split at d
 ·rename_i hb
  rw [Bool.and_eq_true] at hb
  have e:=Option.some.inj d
  exact laidMet_of_run (ps:=x.2) fuel (by rw [hx,← e]) (decide_eq_true (nodupBits_sound hb.1).1) hb.2
 ·cases d
end Tdoc
