/- The variables stand before a call of the laws of layer 28: out of the world's shape and the row's list; a world for the witness; the records and personalisations that are handed over. -/
import Derived.Test.YtijghnaidinliaaGreatDoorCW10
import Derived.Test.YtijghnaidinliaaGreatDoorCards
import Derived.Test.YtijghnaidinliaaGreatDoorTie
import Derived.Deep.DeepHandedRow
import Derived.Lib.LaidTab
import Derived.LaidSub
import Derived.Shelf.Vars
set_option linter.unusedVariables false
set_option linter.unusedSimpArgs false
set_option maxRecDepth 100000
namespace Go.Proofs.YtijghnaidinliaaGreatDoor
open Go Tdoc
def qSf:List (String×DataW Unit):=Rows.chipRecordsRow.laid
theorem qXy:Tryz.prog.globalNamed "traveldoc/digest.constants" = some 0:=by kernel_rfl
theorem gTy0:(Tryz.prog.globals[0]?).map (·.type)=some 362:=by kernel_rfl
theorem undW:Tryz.prog.underlying 362=some (.array 64 256):=by kernel_rfl
theorem undV:Tryz.prog.underlying 256=some (.int .u32):=by kernel_rfl
theorem cellsW':Tryz.prog.cellsOf 362=64:=by kernel_rfl
theorem qYd:Tryz.prog.cellsOf 256=1:=by kernel_rfl
def conTb:List Int:=[1116352408,1899447441,3049323471,3921009573,961987163,1508970993,2453635748,2870763221,3624381080,310598401,607225278,1426881987,1925078388,2162078206,2614888103,3248222580,3835390401,4022224774,264347078,604807628,770255983,1249150122,1555081692,1996064986,2554220882,2821834349,2952996808,3210313671,3336571891,3584528711,113926993,338241895,666307205,773529912,1294757372,1396182291,1695183700,1986661051,2177026350,2456956037,2730485921,2820302411,3259730800,3345764771,3516065817,3600352804,4094571909,275423344,430227734,506948616,659060556,883997877,958139571,1322822218,1537002063,1747873779,1955562222,2024104815,2227730452,2361852424,2428436474,2756734187,3204031479,3329325298]
theorem qWa {W:World} {name:String} {g:Nat} {k:IntKind} {zs:List Int} (h:Lib.TabIs Tryz.prog W name k zs) (hg:Tryz.prog.globalNamed name=some g) (j:Nat) (d:Dat) (hd:(zs.map fun z=>Dat.int k z)[j]?=some d) :
  (GW W).imm ⟨g,j,none⟩=some (.int k (zs.getD j 0))∧RepD (GW W).imm d (.int k (zs.getD j 0)):=by
 rw [List.getElem?_map,Option.map_eq_some_iff] at hd
 obtain ⟨z,hz,rfl⟩:=hd
 have hj:j < zs.length:=(List.getElem?_eq_some_iff.1 hz).1
 have hz2:zs.getD j 0=z:=by rw [List.getD_eq_getElem?_getD,hz];rfl
 refine ⟨h.cell hg j hj,?_⟩
 rw [hz2]
 exact .int _ _
theorem tabOk {W:World} (h:laidMetH Tryz.prog qSf W):TabOk W (GW W):=by
 have h5:laidMet Tryz.prog [("traveldoc/digest.constants",Rows.laid_traveldoc_digest_constants)] W:=laidMetH.filter (fun x=>x.1 == "traveldoc/digest.constants") h
 have t5:Lib.TabIs Tryz.prog W "traveldoc/digest.constants" .u32 conTb:=Lib.tabIs_of_head (rest:=[]) qXy gTy0 undW undV qYd cellsW' h5
 refine ⟨fun g cs hg=>?_,fun g p hg=>by simp [qKg] at hg⟩
 match g,hg with
 | 0,hg =>
  obtain rfl:(conTb.map fun z=>Dat.int .u32 z)=cs:=Option.some.inj hg
  exact ⟨fun j=>.int .u32 (conTb.getD j 0),fun j d hd=>qWa t5 qXy j d hd⟩
 | g+1,hg=>simp [qGo] at hg
def qUy:DataW Unit→List Value
 | .agg l=>l.flatMap fun
   | .lit (.int k n)=>[.int k n]
   | _=>[]
 | _=>[]
noncomputable def lay (w:World) (g:Nat) (l:List Value):World :=
 { w with heap:=w.heap.modify g fun
   | .cells _ t frozen=>.cells l.toArray t frozen
   | o=>o }
noncomputable def laidWorld (os:Os):World:=lay (World.holding Tryz.prog os ⟨#[],#[],[]⟩) 0 (qUy Rows.laid_traveldoc_digest_constants)
theorem qSe (os:Os) (args:Array Value):laidMet Tryz.prog qSf ((laidWorld os).forCall (fun _ _=>0) ⟨#[],args,[]⟩).memory :=
 laidMet_of_run' 8 (by kernel_rfl) (by kernel_rfl)
section
variable {H:Type} {enc:TypeId×Value→H} {W:World}
theorem wfU {n:Int} (h:(Lit.int .u8 n).wf=true):0≤n∧n < 256:=by
 have hn2:(decide (IntKind.u8.min≤n)&&decide (n≤IntKind.u8.max))=true:=h
 simp [IntKind.min,IntKind.max,IntKind.signed,IntKind.bits] at hn2
 omega
theorem mxL:maxLen=9223372036854775807:=by decide
theorem qVb {es:List (List Dat)} (h:∀ x,x∈es→∃ n,x=[Dat.int .u8 n]∧(Lit.int .u8 n).wf=true):∃ b:List UInt8,es=qAg b∧b.length=es.length:=by
 induction es with
 | nil=>exact ⟨[],rfl,rfl⟩
 | cons x es ih =>
  obtain ⟨b,h1,h2⟩:=ih fun m hm=>h m (List.mem_cons_of_mem _ hm)
  obtain ⟨n,rfl,hn⟩:=h x List.mem_cons_self
  have hr:=wfU hn
  refine ⟨UInt8.ofNat n.toNat::b,?_,by simp [h2]⟩
  have hz:((UInt8.ofNat n.toNat).toNat:Int)=n:=by rw [UInt8.toNat_ofNat'];omega
  show [Dat.int .u8 n]::es=[Dat.int .u8 ((UInt8.ofNat n.toNat).toNat:Int)]::qAg b
  rw [hz,h1]
def qEb (ds:List Dat):Prop:=∃ n,ds=[.int .i64 n]
def qVv (ds:List Dat):Prop:=∃ b,ds=[.bool b]
def qSh (ds:List Dat):Prop:=∃ s:List UInt8,ds=[.str s]∧s.length≤maxLen
def qFi (ds:List Dat):Prop:=∃ b:List UInt8,ds=[.sl 1 (qAg b)]∧b.length≤maxLen
theorem qLj:Opn enc Tryz.prog W 3 1 qEb:=(qTj Tryz.underlying3).weak fun ds ⟨n,h,_⟩=>⟨n,h⟩
theorem qYz:Opn enc Tryz.prog W 4 1 qVv:=qVi Tryz.underlying4
theorem qXs:Opn enc Tryz.prog W 9 1 qSh:=qWz Tryz.underlying9
theorem qIm:Opn enc Tryz.prog W 22 1 qFi:=(qFk Tryz.underlying22 (by kernel_rfl) (by decide) (qTj Tryz.underlying5)).weak fun ds ⟨es,h,h1,h2⟩=>by
 obtain ⟨b,rfl,hb⟩:=qVb h1
 exact ⟨b,h,by omega⟩
theorem qKk {α:Type} {e:α→List Dat} {Q:α→Prop} {es:List (List Dat)} (h:∀ x,x∈es→∃ a,x=e a∧Q a):∃ l:List α,es=l.map e∧∀ a,a∈l→Q a:=by
 induction es with
 | nil=>exact ⟨[],rfl,fun a h=>by cases h⟩
 | cons x es ih =>
  obtain ⟨l,h1,h2⟩:=ih fun m hm=>h m (List.mem_cons_of_mem _ hm)
  obtain ⟨a,rfl,ha⟩:=h x List.mem_cons_self
  refine ⟨a::l,by rw [h1];rfl,fun b hb=>?_⟩
  rcases List.mem_cons.1 hb with rfl | hb
  ·exact ha
  ·exact h2 b hb
def isTp (ds:List Dat):Prop:=∃ p:Tp,ds=qEi p∧p.holder.length≤maxLen
theorem oTp:Opn enc Tryz.prog W 89 5 isTp :=
 (qCm (Fs:=[qSh,qEb,qEb,qEb,qEb]) Tryz.underlying89 (by kernel_rfl) ⟨rfl,1,by kernel_rfl,qXs,rfl,1,by kernel_rfl,qLj,rfl,1,by kernel_rfl,qLj,rfl,1,by kernel_rfl,qLj,rfl,1,by kernel_rfl,qLj,rfl⟩).weak fun ds h=>by
  obtain ⟨_,_,rfl,⟨s,rfl,hs⟩,_,_,rfl,⟨n1,rfl⟩,_,_,rfl,⟨n2,rfl⟩,_,_,rfl,⟨n3,rfl⟩,_,_,rfl,⟨n4,rfl⟩,rfl⟩:=h
  exact ⟨⟨s,n1,n2,n3,n4⟩,rfl,hs⟩
def qXw (ds:List Dat):Prop:=∃ l:List Tp,ds=[.sl 5 (qAp l)]∧l.length≤maxLen∧∀ t,t∈l→t.holder.length≤maxLen
theorem oTps:Opn enc Tryz.prog W 23 1 qXw:=(qFk Tryz.underlying23 (by kernel_rfl) (by decide) oTp).weak fun ds ⟨es,h,h1,h2⟩=>by
 obtain ⟨l,rfl,hl⟩:=qKk h1
 exact ⟨l,h,by simpa using h2,hl⟩
def qSg (ds:List Dat):Prop:=∃ (l:List Tp) (day:Int),ds=[.sl 5 (qAp l),.int .i64 day]∧l.length≤maxLen∧∀ t,t∈l→t.holder.length≤maxLen
theorem qXr:Opn enc Tryz.prog W 25 2 qSg :=
 (qCm (Fs:=[qXw,qEb]) Tryz.underlying25 (by kernel_rfl) ⟨rfl,1,by kernel_rfl,oTps,rfl,1,by kernel_rfl,qLj,rfl⟩).weak fun ds h=>by
  obtain ⟨_,_,rfl,⟨l,rfl,h1,h2⟩,_,_,rfl,⟨n,rfl⟩,rfl⟩:=h
  exact ⟨l,n,rfl,h1,h2⟩
def qZg (ds:List Dat):Prop:=∃ f:Fil,ds=qCs f∧True
theorem oAcc:Opn enc Tryz.prog W 99 2 (FldAll [qEb,qEb]):=qCm Tryz.underlying99 (by kernel_rfl) ⟨rfl,1,by kernel_rfl,qLj,rfl,1,by kernel_rfl,qLj,rfl⟩
theorem oFil:Opn enc Tryz.prog W 101 5 qZg :=
 (qCm (Fs:=[qEb,qEb,qFi,FldAll [qEb,qEb]]) Tryz.underlying101 (by kernel_rfl) ⟨rfl,1,by kernel_rfl,qLj,rfl,1,by kernel_rfl,qLj,rfl,1,by kernel_rfl,qIm,rfl,2,by kernel_rfl,oAcc,rfl⟩).weak fun ds h=>by
  obtain ⟨_,_,rfl,⟨n1,rfl⟩,_,_,rfl,⟨n2,rfl⟩,_,_,rfl,⟨b,rfl,_⟩,_,_,rfl,⟨_,_,rfl,⟨n3,rfl⟩,_,_,rfl,⟨n4,rfl⟩,rfl⟩,rfl⟩:=h
  exact ⟨⟨n1,n2,b,n3,n4⟩,rfl,trivial⟩
def qOv (ds:List Dat):Prop:=∃ l:List Fil,ds=[.sl 5 (qAc l)]∧l.length≤maxLen
theorem qXt:Opn enc Tryz.prog W 44 1 qOv:=(qFk Tryz.underlying44 (by kernel_rfl) (by decide) oFil).weak fun ds ⟨es,h,h1,h2⟩=>by
 obtain ⟨l,rfl,hl⟩:=qKk h1
 exact ⟨l,h,by simpa using h2⟩
def qZh (ds:List Dat):Prop:=∃ a:Apk,ds=qEx a∧a.files.length≤maxLen
theorem oApk:Opn enc Tryz.prog W 103 2 qZh :=
 (qCm (Fs:=[qFi,qOv]) Tryz.underlying103 (by kernel_rfl) ⟨rfl,1,by kernel_rfl,qIm,rfl,1,by kernel_rfl,qXt,rfl⟩).weak fun ds h=>by
  obtain ⟨_,_,rfl,⟨b,rfl,_⟩,_,_,rfl,⟨l,rfl,hl⟩,rfl⟩:=h
  exact ⟨⟨b,l⟩,rfl,hl⟩
def qSi (ds:List Dat):Prop:=∃ l:List Apk,ds=[.sl 2 (qAf l)]∧l.length≤maxLen∧∀ a,a∈l→a.files.length≤maxLen
theorem qZa:Opn enc Tryz.prog W 45 1 qSi:=(qFk Tryz.underlying45 (by kernel_rfl) (by decide) oApk).weak fun ds ⟨es,h,h1,h2⟩=>by
 obtain ⟨l,rfl,hl⟩:=qKk h1
 exact ⟨l,h,by simpa using h2,hl⟩
theorem oFs:Opn enc Tryz.prog W 47 2 (FldAll [qOv,qSi]):=qCm Tryz.underlying47 (by kernel_rfl) ⟨rfl,1,by kernel_rfl,qXt,rfl,1,by kernel_rfl,qZa,rfl⟩
def qZf (ds:List Dat):Prop:=∃ x:Inf,ds=qTz x∧True
theorem oInf:Opn enc Tryz.prog W 105 5 qZf :=
 (qCm (Fs:=[qEb,qEb,qEb,qEb,qEb]) Tryz.underlying105 (by kernel_rfl) ⟨rfl,1,by kernel_rfl,qLj,rfl,1,by kernel_rfl,qLj,rfl,1,by kernel_rfl,qLj,rfl,1,by kernel_rfl,qLj,rfl,1,by kernel_rfl,qLj,rfl⟩).weak fun ds h=>by
  obtain ⟨_,_,rfl,⟨n0,rfl⟩,_,_,rfl,⟨n1,rfl⟩,_,_,rfl,⟨n2,rfl⟩,_,_,rfl,⟨n3,rfl⟩,_,_,rfl,⟨n4,rfl⟩,rfl⟩:=h
  exact ⟨⟨n0,n1,n2,n3,n4⟩,rfl,trivial⟩
def qVu (ds:List Dat):Prop:=∃ l:List Inf,ds=[.sl 5 (qAt l)]∧l.length≤maxLen
theorem qYy:Opn enc Tryz.prog W 48 1 qVu:=(qFk Tryz.underlying48 (by kernel_rfl) (by decide) oInf).weak fun ds ⟨es,h,h1,h2⟩=>by
 obtain ⟨l,rfl,hl⟩:=qKk h1
 exact ⟨l,h,by simpa using h2⟩
theorem qUk {r:Reach} {b0:Nat} {v:Value} {d:DataW H} {ps:List MemPlace} (hval:Value.okWide Tryz.prog W r b0 50 v) (hd:DataW.Trod enc Tryz.prog W 0 (fun _=>true) true 50 v d ps) :
  ∃ p:Per,PerAny p∧RepA (GW W) (qBw p) v:=by
 obtain ⟨ds,h,hr⟩:=qSa (m:=16) (F:=FldAll [FldAll [qOv,qSi],qSh,qFi,qFi,qFi,qEb,qEb,qVv,qVu,qEb,qEb,qSg,qFi,qFi]) Tryz.underlying50
  (qCm Tryz.underlying50 (by kernel_rfl) ⟨rfl,2,by kernel_rfl,oFs,rfl,1,by kernel_rfl,qXs,rfl,1,by kernel_rfl,qIm,rfl,1,by kernel_rfl,qIm,rfl,1,by kernel_rfl,qIm,rfl,1,by kernel_rfl,qLj,rfl,1,by kernel_rfl,qLj,rfl,1,by kernel_rfl,qYz,
   rfl,1,by kernel_rfl,qYy,rfl,1,by kernel_rfl,qLj,rfl,1,by kernel_rfl,qLj,rfl,2,by kernel_rfl,qXr,rfl,1,by kernel_rfl,qIm,rfl,1,by kernel_rfl,qIm,rfl⟩) hval hd
 obtain ⟨_,_,rfl,⟨_,_,rfl,⟨root,rfl,r1⟩,_,_,rfl,⟨apps,rfl,r2,r3⟩,rfl⟩,_,_,rfl,⟨zone,rfl,_⟩,_,_,rfl,⟨num,rfl,_⟩,_,_,rfl,⟨pin,rfl,_⟩,_,_,rfl,⟨puk,rfl,_⟩,_,_,rfl,⟨pr,rfl⟩,_,_,rfl,⟨ur,rfl⟩,_,_,rfl,⟨ba,rfl⟩,_,_,rfl,⟨infs,rfl,r4⟩,
  _,_,rfl,⟨ck,rfl⟩,_,_,rfl,⟨ak,rfl⟩,_,_,rfl,⟨l,day,rfl,r5,r6⟩,_,_,rfl,⟨idn,rfl,_⟩,_,_,rfl,⟨sd,rfl,_⟩,rfl⟩:=h
 rw [mxL] at r1 r2 r4 r5
 exact ⟨⟨root,apps,zone,num,pin,puk,pr,ur,ba,infs,ck,ak,l,day,idn,sd⟩,⟨r1,r2,fun a ha=>by have:=r3 a ha;rw [mxL] at this;exact this,r4,r5,fun a ha=>by have:=r6 a ha;rw [mxL] at this;exact this⟩,hr⟩
end
end Go.Proofs.YtijghnaidinliaaGreatDoor
