/- What a function reaches, computed with a cut list and a set of bits: the kernel needs little memory. No program is named. -/
import GoSem.ClaimFn
import Derived.KernelRfl
namespace Tdoc
open Go
def look2 {α:Type} (A:List (List α)) (i:Nat):Option α:=(A[i / 32]?).bind (·[i % 32]?)
def cut32 {α:Type}:List (List α)→Bool
 | []=>true
 | [x]=>Nat.ble x.length 32
 | x::r=>Nat.beq x.length 32&&cut32 r
theorem qKi {α:Type}:∀ (A:List (List α)) (i:Nat),cut32 A=true→A.flatten[i]?=look2 A i
 | [],i,_=>by simp [look2]
 | [x],i,h=>by
  have hx:x.length≤32:=Nat.le_of_ble_eq_true h
  have e:([x]:List (List α)).flatten=x:=by simp
  rw [e]
  unfold look2
  by_cases hi:i < 32
  ·rw [Nat.div_eq_of_lt hi,Nat.mod_eq_of_lt hi]
   rfl
  ·have h1:1≤i / 32:=by omega
   rw [List.getElem?_eq_none (by omega:x.length≤i),List.getElem?_eq_none (by simpa using h1)]
   rfl
 | x::y::r,i,h=>by
  have h':(Nat.beq x.length 32&&cut32 (y::r))=true:=h
  rw [Bool.and_eq_true] at h'
  have hx:x.length=32:=Nat.eq_of_beq_eq_true h'.1
  rw [List.flatten_cons]
  by_cases hi:i < 32
  ·rw [List.getElem?_append_left (by omega)]
   unfold look2
   rw [Nat.div_eq_of_lt hi,Nat.mod_eq_of_lt hi]
   rfl
  ·rw [List.getElem?_append_right (by omega),qKi (y::r) (i-x.length) h'.2,hx]
   unfold look2
   have h1:i / 32=(i-32) / 32+1:=by omega
   have h2:i % 32=(i-32) % 32:=by omega
   rw [h1,h2,List.getElem?_cons_succ]
def clA (A:List (List (List Nat))):Nat→List Nat→Nat→List Nat→List Nat
 | 0,_,_,acc=>acc.reverse
 | _+1,[],_,acc=>acc.reverse
 | n+1,f::todo,bits,acc=>bif bits.testBit f then clA A n todo bits acc else clA A n ((look2 A f).getD []++todo) (bits ||| 1 <<< f) (f::acc)
theorem closureVia_cl {P:Program} {A:List (List (List Nat))} (hA:P.funcs.toList.map P.leadsTo=A.flatten) (hc:cut32 A=true):∀ (n:Nat) (todo:List Nat) (bits:Nat) (seen:List Nat),(∀ k,seen.contains k=bits.testBit k)→P.closureVia n todo seen=clA A n todo bits seen
 | 0,_,_,_,_=>by simp [Program.closureVia,clA]
 | _+1,[],_,_,_=>by simp [Program.closureVia,clA]
 | n+1,f::todo,bits,seen,h=>by
  have hl:(P.funcs[f]?).elim [] P.leadsTo=(look2 A f).getD []:=by
   rw [← qKi A f hc,← hA,List.getElem?_map,Array.getElem?_toList]
   cases P.funcs[f]? <;> rfl
  have hb:∀ k,(f::seen).contains k=(bits ||| 1 <<< f).testBit k:=fun k=>by
   rw [List.contains_cons,h k,Nat.testBit_or,Nat.one_shiftLeft,Nat.testBit_two_pow,Bool.or_comm]
   congr 1
   by_cases hk:k=f
   ·subst hk;simp
   ·rw [beq_false_of_ne hk,decide_eq_false (fun e=>hk e.symm)]
  unfold Program.closureVia clA
  rw [h f,hl]
  cases bits.testBit f
  ·simpa using closureVia_cl hA hc n _ _ _ hb
  ·simpa using closureVia_cl hA hc n todo bits seen h
theorem qXj {P:Program} {A:List (List (List Nat))} {F:Nat} {f:Nat} {l:List Nat} (hA:P.funcs.toList.map P.leadsTo=A.flatten) (hc:cut32 A=true) (hF:1+(A.flatten.map fun l=>l.length+1).sum=F) (hl:clA A F [f] 0 []=l):P.closure f=l:=by
 unfold Program.closure
 have e:(P.funcs.toList.map fun g=>(P.leadsTo g).length+1)=A.flatten.map fun l=>l.length+1:=by rw [← hA,List.map_map];rfl
 rw [e,hF,closureVia_cl hA hc F [f] 0 [] (fun k=>by simp),hl]
theorem filterMap_tab {β:Type} {P:Program} {q:Func→Option β} {B:List (List (Option β))} (hB:P.funcs.toList.map q=B.flatten) (hc:cut32 B=true) (c:List Nat):(c.filterMap fun g=>(P.funcs[g]?).bind q)=c.filterMap fun g=>(look2 B g).bind id:=by
 congr 1
 funext g
 rw [← qKi B g hc,← hB,List.getElem?_map,Array.getElem?_toList]
 cases P.funcs[g]? <;> rfl
theorem flatMap_tab {P:Program} {B:List (List (List Nat))} (hB:(P.funcs.toList.map fun fn=>(fn.body).elim [] Code.globalsNamed)=B.flatten) (hc:cut32 B=true) (c:List Nat):(c.flatMap fun g=>((P.funcs[g]?).bind (·.body)).elim [] Code.globalsNamed)=c.flatMap fun g=>(look2 B g).getD []:=by
 congr 1
 funext g
 rw [← qKi B g hc,← hB,List.getElem?_map,Array.getElem?_toList]
 cases P.funcs[g]? <;> rfl
theorem inPlace_tab {P:Program} {f:Nat} {c:List Nat} {D:List (List (Option String))} {l:List String} (hcl:P.closure f=c) (hD:(P.funcs.toList.map fun fn=>if fn.ours||fn.body.isNone||fn.name == "runtime.NumGoroutine" then some fn.name else none)=D.flatten) (hc:cut32 D=true)
  (hl:(c.filterMap fun g=>(look2 D g).bind id)=l):P.inPlace f=l:=by
 unfold Program.inPlace
 rw [hcl,filterMap_tab hD hc,hl]
theorem varsNamed_tab {P:Program} {f:Nat} {c:List Nat} {B:List (List (List Nat))} {C:List (List (Option String))} {l:List String} (hcl:P.closure f=c) (hB:(P.funcs.toList.map fun fn=>(fn.body).elim [] Code.globalsNamed)=B.flatten) (hb:cut32 B=true)
  (hC:(P.funcs.toList.map fun fn=>if fn.body.isNone then entryReads.lookup fn.name else none)=C.flatten) (hc:cut32 C=true)
  (hl:((((c.flatMap fun g=>(look2 B g).getD []).eraseDups).filterMap fun g=>(P.globals[g]?).map (·.name))++c.filterMap fun g=>(look2 C g).bind id).eraseDups=l):P.varsNamed f=l:=by
 unfold Program.varsNamed
 rw [hcl,flatMap_tab hB hb,filterMap_tab hC hc,hl]
theorem vDd {P:Program} {q:Func→Bool} (h:P.funcs.any q=false) (c:List Nat):(c.any fun g=>(P.funcs[g]?).any q)=false:=by
 rw [List.any_eq_false]
 intro g _
 cases hg:P.funcs[g]? with
 | none=>simp
 | some fn =>
  obtain ⟨hi,he⟩:=Array.getElem?_eq_some_iff.1 hg
  have:=Array.any_eq_false.1 h g hi
  rw [he] at this
  simpa using this
end Tdoc
