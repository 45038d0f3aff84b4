/- The variables stand before a call of a law of layer 45: out of the world's shape and the row's list; a world for the witness. Printed by tools/gen_sv.py. -/
import Derived.Test.YtlfiejdnlcbpgaaGreatDoorCN4
import Derived.Test.YtlfiejdnlcbpgaaGreatDoorCNSR
import Derived.Test.YtlfiejdnlcbpgaaGreatDoorCards
import Derived.Deep.DeepHandedRow
import Derived.Lib.LaidTab
import Derived.LaidSub
import Derived.Shelf.Vars
set_option linter.unusedVariables false
set_option linter.unusedSimpArgs false
set_option maxRecDepth 100000
namespace Go.Proofs.YtlfiejdnlcbpgaaGreatDoor
open Go Tdoc
theorem vGe {W:World} {g:Nat} {t:TypeId} {zero:Array Value} (h:W.ShapedOpen Tryz.prog) (hg:g < Tryz.prog.globals.size)
  (h0:((begin Tryz.prog (fun _ _=>0) default).world.heap[g]?).bind Obj.row?=some (zero,t)) (hz:zero.size=1) (hb:Tryz.prog.buildable t=true) (hc:Tryz.prog.cellTypes Tryz.prog.depth t=some [t]) :
  ∃ v,W.heap[g]?=some (.cells #[v] t)∧Cell.ok Tryz.prog W .any 0 t v:=by
 obtain ⟨cs,hh,hs,hr⟩:=h.1 g zero t hg h0
 obtain ⟨ts,hts,_,hall⟩:=hr hb
 rw [hc] at hts
 cases hts
 obtain ⟨l⟩:=cs
 match l,hs.trans hz with
 | [v],_ =>
  obtain ⟨u,hu,hk⟩:=hall 0 v rfl
  obtain rfl:t=u:=by simpa using hu
  exact ⟨v,hh,hk⟩
theorem mx {W:World} (h:W.ShapedOpen Tryz.prog):∃ (m:Int) (t:TypeId) (f:Nat×Nat),W.heap[0]?=some (.cells #[.int .i64 m] t f):=by
 obtain ⟨v,h1,h2⟩:=vGe (g:=0) (zero:=#[.int .i64 0]) (t:=3) h (of_decide_eq_true (by kernel_rfl)) (by kernel_rfl) rfl (by kernel_rfl) (by kernel_rfl)
 simp only [Cell.ok,Tryz.underlying3] at h2
 cases v <;> simp at h2
 obtain ⟨rfl,_⟩:=h2
 exact ⟨_,_,_,h1⟩
def qZk:List (String×DataW Unit):=Rows.consoleReadsRow.laid
theorem qNv:Tryz.prog.globalNamed "strconv.ErrSyntax" = some 4:=by kernel_rfl
theorem qPr:(Tryz.prog.globals[4]?).map (·.type)=some 133:=by kernel_rfl
theorem qPs:Tryz.prog.globalNamed "strconv.ErrRange" = some 5:=by kernel_rfl
theorem qSt:(Tryz.prog.globals[5]?).map (·.type)=some 133:=by kernel_rfl
theorem vId:Tryz.prog.globalNamed "internal/strconv.uint64pow10" = some 3:=by kernel_rfl
theorem gTyP:(Tryz.prog.globals[3]?).map (·.type)=some 290:=by kernel_rfl
theorem undA:Tryz.prog.underlying 290=some (.array 20 219):=by kernel_rfl
theorem undI:Tryz.prog.underlying 219=some (.int .u64):=by kernel_rfl
theorem cellsA:Tryz.prog.cellsOf 290=20:=by kernel_rfl
theorem vIj:Tryz.prog.cellsOf 219=1:=by kernel_rfl
theorem vIe:Tryz.prog.globalNamed "traveldoc/digest.constants" = some 9:=by kernel_rfl
theorem gTyD:(Tryz.prog.globals[9]?).map (·.type)=some 660:=by kernel_rfl
theorem undW:Tryz.prog.underlying 660=some (.array 64 286):=by kernel_rfl
theorem undV:Tryz.prog.underlying 286=some (.int .u32):=by kernel_rfl
theorem cellsW':Tryz.prog.cellsOf 660=64:=by kernel_rfl
theorem vIi:Tryz.prog.cellsOf 286=1:=by kernel_rfl
def conTb:List Int:=[1116352408,1899447441,3049323471,3921009573,961987163,1508970993,2453635748,2870763221,3624381080,310598401,607225278,1426881987,1925078388,2162078206,2614888103,3248222580,3835390401,4022224774,264347078,604807628,770255983,1249150122,1555081692,1996064986,2554220882,2821834349,2952996808,3210313671,3336571891,3584528711,113926993,338241895,666307205,773529912,1294757372,1396182291,1695183700,1986661051,2177026350,2456956037,2730485921,2820302411,3259730800,3345764771,3516065817,3600352804,4094571909,275423344,430227734,506948616,659060556,883997877,958139571,1322822218,1537002063,1747873779,1955562222,2024104815,2227730452,2361852424,2428436474,2756734187,3204031479,3329325298]
theorem vEj {W:World} {name:String} {g:Nat} {k:IntKind} {zs:List Int} (h:Lib.TabIs Tryz.prog W name k zs) (hg:Tryz.prog.globalNamed name=some g) (j:Nat) (d:Dat) (hd:(zs.map fun z=>Dat.int k z)[j]?=some d) :
  (GW W).imm ⟨g,j,none⟩=some (.int k (zs.getD j 0))∧RepD (GW W).imm d (.int k (zs.getD j 0)):=by
 rw [List.getElem?_map,Option.map_eq_some_iff] at hd
 obtain ⟨z,hz,rfl⟩:=hd
 have hj:j < zs.length:=(List.getElem?_eq_some_iff.1 hz).1
 have hz2:zs.getD j 0=z:=by rw [List.getD_eq_getElem?_getD,hz];rfl
 refine ⟨h.cell hg j hj,?_⟩
 rw [hz2]
 exact .int _ _
theorem mxL:maxLen=9223372036854775807:=by decide
theorem qUz {P:Program} {W:World} {n:String} {g:Nat} {cs:Array Value} (hg:P.globalNamed n=some g) (h:W.var? P n=some cs):∃ t f,W.heap[g]?=some (.cells cs t f):=by
 unfold World.var? at h
 rw [hg] at h
 simp only [Option.bind_some] at h
 split at h
 ·rename_i c t f he
  cases h
  exact ⟨t,f,he⟩
 ·cases h
theorem qVs {W:World} {n:String} {g:Nat} {d:DataW Unit} (hg:Tryz.prog.globalNamed n=some g) (hty:(Tryz.prog.globals[g]?).map (·.type)=some 133) (h:laidMet Tryz.prog [(n,d)] W) :
  ∃ (v:Value) (t:TypeId) (f:Nat×Nat),W.heap[g]?=some (.cells #[v] t f)∧(v=.nilIface∨∃ te pe,v=.iface te pe):=by
 obtain ⟨ps,⟨g',t',cs,fuel,p,q,hg',ht',hvar,hd,_,_⟩,_⟩:=h
 obtain rfl:=Option.some.inj (hg.symm.trans hg')
 obtain rfl:=Option.some.inj (hty.symm.trans ht')
 obtain ⟨t,f,hh⟩:=qUz hg hvar
 cases fuel with
 | zero=>simp [DataW.trod] at hd
 | succ k =>
  obtain ⟨l⟩:=cs
  simp only [DataW.trod,Tryz.underlying133] at hd
  match l,hd with
  | [],hd=>simp at hd
  | [v],hd =>
   cases v <;> simp at hd
   ·exact ⟨_,t,f,hh,.inr ⟨_,_,rfl⟩⟩
   ·exact ⟨_,t,f,hh,.inl rfl⟩
  | _::_::_,hd=>simp at hd
theorem tabOk {W:World} (h:laidMetH Tryz.prog qZk W) (hs:W.ShapedOpen Tryz.prog):TabOk W (GW W):=by
 have h1:laidMet Tryz.prog [("strconv.ErrSyntax",Rows.laid_strconv_ErrSyntax)] W:=laidMetH.filter (fun x=>x.1 == "strconv.ErrSyntax") h
 have h2:laidMet Tryz.prog [("strconv.ErrRange",Rows.laid_strconv_ErrRange)] W:=laidMetH.filter (fun x=>x.1 == "strconv.ErrRange") h
 have h3:laidMet Tryz.prog [("internal/strconv.uint64pow10",Rows.laid_internal_strconv_uint64pow10)] W:=laidMetH.filter (fun x=>x.1 == "internal/strconv.uint64pow10") h
 have h5:laidMet Tryz.prog [("traveldoc/digest.constants",Rows.laid_traveldoc_digest_constants)] W:=laidMetH.filter (fun x=>x.1 == "traveldoc/digest.constants") h
 have t5:Lib.TabIs Tryz.prog W "traveldoc/digest.constants" .u32 conTb:=Lib.tabIs_of_head (rest:=[]) vIe gTyD undW undV vIi cellsW' h5
 refine ⟨fun g cs hg=>?_,fun g p hg=>⟨rfl,?_⟩⟩
 ·by_cases h9:g=9
  ·subst h9
   obtain rfl:(conTb.map fun z=>Dat.int .u32 z)=cs:=Option.some.inj hg
   exact ⟨fun j=>.int .u32 (conTb.getD j 0),fun j d hd=>vEj t5 vIe j d hd⟩
  ·exfalso
   have:qHd g=none:=by
    unfold qHd
    split
    ·omega
    ·rfl
   rw [this] at hg
   cases hg
 match g,hg with
 | 0,hg =>
  cases hg
  obtain ⟨m,t,f,hh⟩:=mx hs
  exact ⟨_,hh,m,t,f,rfl⟩
 | 1,hg=>simp [qIq] at hg
 | 2,hg=>simp [qIq] at hg
 | 3,hg =>
  cases hg
  have ht:Lib.TabIs Tryz.prog W "internal/strconv.uint64pow10" .u64 ((List.range 20).map fun i=>((10 ^ i:Nat):Int)):=Lib.tabIs_of_head (rest:=[]) vId gTyP undA undI vIj cellsA h3
  unfold Lib.TabIs at ht
  obtain ⟨t,f,hh⟩:=qUz vId ht
  exact ⟨_,hh,t,f,by rw [List.map_map];rfl⟩
 | 4,hg =>
  cases hg
  obtain ⟨v,t,f,hh,hv⟩:=qVs qNv qPr h1
  exact ⟨_,hh,v,t,f,rfl,hv⟩
 | 5,hg =>
  cases hg
  obtain ⟨v,t,f,hh,hv⟩:=qVs qPs qSt h2
  exact ⟨_,hh,v,t,f,rfl,hv⟩
 | g+6,hg=>simp [qIq] at hg
def qEd:DataW Unit→List Value
 | .agg l=>l.flatMap fun
   | .lit (.int k n)=>[.int k n]
   | .agg [.lit (.int k n),.lit (.int k' n')]=>[.int k n,.int k' n']
   | _=>[]
 | _=>[]
noncomputable def lay (w:World) (g:Nat) (l:List Value):World :=
 { w with heap:=w.heap.modify g fun
   | .cells _ t frozen=>.cells l.toArray t frozen
   | o=>o }
noncomputable def more (w:World) (s:List UInt8):World:={ w with heap:=w.heap.push (.cells #[.string ⟨s.toArray⟩] 477 (0,0)) }
noncomputable def laidWorld (os:Os):World :=
 let w0:=World.holding Tryz.prog os ⟨#[],#[],[]⟩
 let w1:=more (more w0 [118,97,108,117,101,32,111,117,116,32,111,102,32,114,97,110,103,101]) [105,110,118,97,108,105,100,32,115,121,110,116,97,120]
 (lay (lay (lay (lay (lay (lay (lay (lay (lay (lay (lay w1 5 [.iface 475 (.pointer (some ⟨w0.heap.size,0,none⟩))]) 4 [.iface 475 (.pointer (some ⟨w0.heap.size+1,0,none⟩))]) 3 (qEd Rows.laid_internal_strconv_uint64pow10)) 9 (qEd Rows.laid_traveldoc_digest_constants)) 1 (qEd Rows.laid_unicode_utf8_first)) 2 (qEd Rows.laid_unicode_utf8_acceptRanges)) 6 (qEd Rows.laid_math_bits_deBruijn32tab)) 7 (qEd Rows.laid_math_bits_deBruijn64tab)) 10 (qEd Rows.laid_traveldoc_dates_lengths)) 8 (qEd Rows.laid_traveldoc_datagroups_tags)) 11 (qEd Rows.laid_traveldoc_securityinfo_endings))
theorem qZi (os:Os) (args:Array Value):laidMet Tryz.prog qZk ((laidWorld os).forCall (fun _ _=>0) ⟨#[],args,[]⟩).memory :=
 laidMet_bits 8 257 (by kernel_rfl)
end Go.Proofs.YtlfiejdnlcbpgaaGreatDoor
