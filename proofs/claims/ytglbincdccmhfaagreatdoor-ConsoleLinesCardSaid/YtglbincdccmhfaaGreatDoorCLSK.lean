/- An act that is handed over, opened: its parts as data, with what a machine's memory holds of them. -/
import Derived.Test.YtglbincdccmhfaaGreatDoorCL14
set_option linter.unusedVariables false
set_option linter.unusedSimpArgs false
set_option maxRecDepth 100000
namespace Go.Proofs.YtglbincdccmhfaaGreatDoor
open Go Tdoc
section
variable {H:Type} {enc:TypeId×Value→H} {W:World}
def qDl (ds:List Dat):Prop:=∃ n:Int,ds=[.int .i64 n]∧-9223372036854775808≤n∧n≤9223372036854775807
def qSn (ds:List Dat):Prop:=∃ b,ds=[.bool b]
def qCm (ds:List Dat):Prop:=∃ s:List UInt8,ds=[.str s]∧s.length≤1000000000000000
theorem wfI {n:Int} (h:(Lit.int .i64 n).wf=true) : -9223372036854775808≤n∧n≤9223372036854775807:=by
 have hn2:(decide (IntKind.i64.min≤n)&&decide (n≤IntKind.i64.max))=true:=h
 simp [IntKind.min,IntKind.max,IntKind.signed,IntKind.bits] at hn2
 omega
theorem rB:reachBytes≤1000000000000000:=by decide
theorem qHr:OpnW enc Tryz.prog W 3 1 qDl:=(vCy Tryz.underlying3).weak fun ds ⟨n,h,hw⟩=>⟨n,h,wfI hw⟩
theorem vHh:OpnW enc Tryz.prog W 4 1 qSn:=vAf Tryz.underlying4
theorem qHq:OpnW enc Tryz.prog W 9 1 qCm:=(vCx Tryz.underlying9).weak fun ds ⟨s,h,hl⟩=>⟨s,h,Nat.le_trans hl rB⟩
theorem qVc {α:Type} {e:α→List Dat} {es:List (List Dat)} (h:∀ x,x∈es→∃ a,x=e a):∃ l:List α,es=l.map e:=by
 induction es with
 | nil=>exact ⟨[],rfl⟩
 | cons x es ih =>
  obtain ⟨l,h1⟩:=ih fun m hm=>h m (List.mem_cons_of_mem _ hm)
  obtain ⟨a,rfl⟩:=h x List.mem_cons_self
  exact ⟨a::l,by rw [h1];rfl⟩
def qGy (ds:List Dat):Prop:=∃ l:List Int,ds=[.sl 1 (Tdoc.encI l)]∧l.length≤1000000000000000
theorem qYq:OpnW enc Tryz.prog W 22 1 qGy:=(qIx Tryz.underlying22 (by kernel_rfl) (by decide) qHr).weak fun ds ⟨es,h,h1,h2⟩=>by
 obtain ⟨l,rfl⟩:=qVc (e:=fun n:Int=>[Dat.int .i64 n]) (fun x hx=>by
  obtain ⟨n,hn,_⟩:=h1 x hx
  exact ⟨n,hn⟩)
 rw [show Tryz.prog.bytesOf 3=8 by kernel_rfl,List.length_map] at h2
 exact ⟨l,h,by have:=rB;omega⟩
def vHy (ds:List Dat):Prop:=∃ f:Flp,ds=[.int .i64 f.ap,.int .i64 f.byt,.int .i64 f.bit]
theorem vIv:OpnW enc Tryz.prog W 74 3 vHy :=
 (qDd (Fs:=[qDl,qDl,qDl]) Tryz.underlying74 (by kernel_rfl) ⟨rfl,1,by kernel_rfl,qHr,rfl,1,by kernel_rfl,qHr,rfl,1,by kernel_rfl,qHr,rfl⟩).weak fun ds h=>by
  obtain ⟨_,_,rfl,⟨n1,rfl,_⟩,_,_,rfl,⟨n2,rfl,_⟩,_,_,rfl,⟨n3,rfl,_⟩,rfl⟩:=h
  exact ⟨⟨n1,n2,n3⟩,rfl⟩
def qSm (ds:List Dat):Prop:=∃ l:List Flp,ds=[.sl 3 (qAp l)]∧l.length≤1000000000000000
theorem vHg:OpnW enc Tryz.prog W 28 1 qSm:=(qIx Tryz.underlying28 (by kernel_rfl) (by decide) vIv).weak fun ds ⟨es,h,h1,h2⟩=>by
 obtain ⟨l,rfl⟩:=qVc h1
 rw [show Tryz.prog.bytesOf 74=24 by kernel_rfl,List.length_map] at h2
 exact ⟨l,h,by have:=rB;omega⟩
theorem oTpW:OpnW enc Tryz.prog W 109 5 (FldAllW [qCm,qDl,qDl,qDl,qDl]) :=
 qDd Tryz.underlying109 (by kernel_rfl) ⟨rfl,1,by kernel_rfl,qHq,rfl,1,by kernel_rfl,qHr,rfl,1,by kernel_rfl,qHr,rfl,1,by kernel_rfl,qHr,rfl,1,by kernel_rfl,qHr,rfl⟩
def qVf (ds:List Dat):Prop:=∃ P:List (List Dat),ds=[.sl 5 P]∧P.length≤1000000000000000
theorem vIu:OpnW enc Tryz.prog W 23 1 qVf:=(qIx Tryz.underlying23 (by kernel_rfl) (by decide) oTpW).weak fun ds ⟨es,h,h1,h2⟩=>by
 rw [show Tryz.prog.bytesOf 109=48 by kernel_rfl] at h2
 exact ⟨es,h,by have:=rB;omega⟩
theorem vEi:OpnW enc Tryz.prog W 25 2 (FldAllW [qVf,qDl]) :=
 qDd Tryz.underlying25 (by kernel_rfl) ⟨rfl,1,by kernel_rfl,vIu,rfl,1,by kernel_rfl,qHr,rfl⟩
theorem vEj:OpnW enc Tryz.prog W 27 12 (FldAllW [qCm,qCm,qCm,qCm,qCm,qCm,qDl,qGy,qSn,FldAllW [qVf,qDl],qGy]) :=
 qDd Tryz.underlying27 (by kernel_rfl) ⟨rfl,1,by kernel_rfl,qHq,rfl,1,by kernel_rfl,qHq,rfl,1,by kernel_rfl,qHq,rfl,1,by kernel_rfl,qHq,rfl,1,by kernel_rfl,qHq,rfl,1,by kernel_rfl,qHq,rfl,1,by kernel_rfl,qHr,rfl,1,by kernel_rfl,qYq,rfl,1,by kernel_rfl,vHh,rfl,2,by kernel_rfl,vEi,rfl,1,by kernel_rfl,qYq,rfl⟩
theorem vHf:OpnW enc Tryz.prog W 30 2 (FldAllW [qGy,qSm]) :=
 qDd Tryz.underlying30 (by kernel_rfl) ⟨rfl,1,by kernel_rfl,qYq,rfl,1,by kernel_rfl,vHg,rfl⟩
theorem vBp {r:Reach} {b0:Nat} {v:Value} {d:DataW H} {ps:List MemPlace} (hval:Value.okWide Tryz.prog W r b0 32 v) (hd:DataW.Trod enc Tryz.prog W 0 (fun _=>true) true 32 v d ps) (hz:∀ n,n∈d.weights Tryz.prog 32→n≤reachBytes) :
  ∃ (x:Akt) (P:List (List Dat)),P.length=x.pts∧(-9223372036854775808≤x.kind∧x.kind≤9223372036854775807)∧LenW x P∧RepA (GW W) (.agg (qBn x P)) v:=by
 obtain ⟨ds,h,hr⟩:=openW_flat (m:=20) (F:=FldAllW [qDl,qDl,qDl,qDl,qCm,qCm,FldAllW [qCm,qCm,qCm,qCm,qCm,qCm,qDl,qGy,qSn,FldAllW [qVf,qDl],qGy],FldAllW [qGy,qSm]]) Tryz.underlying32
  (qDd Tryz.underlying32 (by kernel_rfl) ⟨rfl,1,by kernel_rfl,qHr,rfl,1,by kernel_rfl,qHr,rfl,1,by kernel_rfl,qHr,rfl,1,by kernel_rfl,qHr,rfl,1,by kernel_rfl,qHq,rfl,1,by kernel_rfl,qHq,rfl,12,by kernel_rfl,vEj,rfl,2,by kernel_rfl,vHf,rfl⟩) hval hd hz
 obtain ⟨_,_,rfl,⟨k,rfl,hk⟩,_,_,rfl,⟨a,rfl,_⟩,_,_,rfl,⟨b,rfl,_⟩,_,_,rfl,⟨n,rfl,_⟩,_,_,rfl,⟨st,rfl,l2⟩,_,_,rfl,⟨tx,rfl,l1⟩,_,_,rfl,
  ⟨_,_,rfl,⟨nu,rfl,l5⟩,_,_,rfl,⟨su,rfl,l3⟩,_,_,rfl,⟨gi,rfl,l4⟩,_,_,rfl,⟨na,rfl,l6⟩,_,_,rfl,⟨bi,rfl,l7⟩,_,_,rfl,⟨se,rfl,l8⟩,_,_,rfl,⟨ex,rfl,_⟩,_,_,rfl,⟨pr,rfl,l9⟩,_,_,rfl,⟨ba,rfl⟩,
   _,_,rfl,⟨_,_,rfl,⟨P,rfl,l11⟩,_,_,rfl,⟨td,rfl,_⟩,rfl⟩,_,_,rfl,⟨fa,rfl,l10⟩,rfl⟩,_,_,rfl,⟨_,_,rfl,⟨cu,rfl,l12⟩,_,_,rfl,⟨fl,rfl,l13⟩,rfl⟩,rfl⟩:=h
 exact ⟨⟨k,a,b,n,st,tx,nu,su,gi,na,bi,se,ex,pr,ba,P.length,td,fa,cu,fl⟩,P,rfl,hk,⟨l1,l2,l3,l4,l5,l6,l7,l8,l9,l10,l11,l12,l13⟩,hr⟩
end
end Go.Proofs.YtglbincdccmhfaaGreatDoor
