/- Part 12 of the proof: the texts XB XC XD XE XF YA YB H2 XQ XR XS ZA XT XU XW NA ZB XX. -/
import Derived.Test.YtelocejblpajcaaGreatDoorTR11
import Derived.Lib.TrimByte
import Derived.Lib.Replace
import Derived.Lib.CutLaws
import Derived.Shelf.Strings.Builder1
import Derived.Shelf.Strings.Builder2
import Derived.Shelf.Strings.Trim
import Derived.Shelf.Small.Utf8
import Derived.Shelf.Small.Bits
import Derived.Shelf.Small.Strs
import Derived.Shelf.Small.Wraps
import Derived.Shelf.Strings.BuilderF
import Derived.Shelf.Strings.BuilderK
import Derived.Shelf.Utf8.RuneCount
import Derived.Shelf.Strings.Builder2Cap
import Derived.Shelf.Strconv.Itoa0
import Derived.Shelf.Strings.Search1
import Derived.Shelf.Strings.Search2
import Derived.Shelf.Strings.Search3
import Derived.Shelf.Strings.Count
import Derived.Shelf.LaysM
import Derived.Shelf.Strings.Shaped
import Derived.Shelf.Strings.Prefix
import Derived.Shelf.Strings.Split
import Derived.Shelf.Strings.Replace
import Derived.Shelf.Strings.SplitShaped
import Derived.Shelf.Unicode.Decode
import Derived.Shelf.Strings.Runes
import Derived.Shelf.Strings.RuneCount
import Derived.Shelf.Strings.AsciiSet
import Derived.Shelf.Bits.Mul64
import Derived.Shelf.Strings.Repeat
import Derived.Shelf.Unicode.DecodeSlow
import Derived.Shelf.Unicode.DecodeAny
import Derived.Shelf.Unicode.DecodeLast
import Derived.Shelf.Slices.Turned
import Derived.Ground.Names2Prog
import Derived.Shelf.Slices.Clone
import Derived.Shelf.Slices.SearchI
import Derived.Ground.SlgnProg
import Derived.Shelf.SlicesE.Clone
import Derived.Shelf.Bytes.SlEqualAll
import Derived.Shelf.Bytes.Small
import Derived.Shelf.Strings.SlTrimAscii
set_option maxHeartbeats 8000000
set_option maxRecDepth 100000
set_option linter.unusedVariables false
set_option linter.unusedSimpArgs false
namespace Tdoc
open Go Go.Proofs
def qWi (k p:Int):Bool:=if k=1 then p == 0 else if k=2 then decide (p≥1)&&decide (p≤10) else if k=3 then p == 1||p == 2 else false
theorem validT_part (t:Tpl):qDu t=if qWi t.kind t.part=false then 14
 else if qMl t.frm=false∨qMl t.til=false∨t.frm > t.til then 8
 else if t.fmt < 0∨t.fmt > 65535∨t.qual < 0∨t.qual > 100 then 3
 else if t.data.length < 1∨t.data.length > 1024 then 2 else 0:=by
 have h:qWi t.kind t.part=false↔((t.kind≠1∧t.kind≠2∧t.kind≠3)∨(t.part < 0∨t.part > qNq t.kind∨(qNq t.kind > 0∧t.part=0))):=by
  unfold qWi qNq
  split
  ·rename_i h1;rw [if_neg (by omega),if_neg (by omega)];simp;omega
  split
  ·simp;omega
  split
  ·simp;omega
  ·simp;omega
 unfold qDu
 by_cases h1:t.kind≠1∧t.kind≠2∧t.kind≠3
 ·rw [if_pos h1,if_pos (h.2 (.inl h1))]
 rw [if_neg h1]
 by_cases h2:t.part < 0∨t.part > qNq t.kind∨(qNq t.kind > 0∧t.part=0)
 ·rw [if_pos h2,if_pos (h.2 (.inr h2))]
 have h3:¬ qWi t.kind t.part=false:=fun hh=>(h.1 hh).elim h1 h2
 rw [if_neg h2,if_neg h3]
theorem vDf (k p:Int):Spec Tryz.prog 381 [.I k,.I p] [] (fun r h'=>r=.d (.bool (qWi k p))∧h'=[]):=by
 unfold qWi
 refine qAb hT Tryz.func381 rfl rfl rfl rfl ?_;intro E hE
 refine ww ?_
 refine qAa rfl (fun c1=>?_) (fun c1=>?_)
 ·rw [if_pos (by simpa using c1)]
  refine ww ?_
  exact wwr
 rw [if_neg (by simpa using c1)]
 refine ww ?_
 refine qAa rfl (fun c2=>?_) (fun c2=>?_)
 ·rw [if_pos (by simpa using c2)]
  refine ww ?_
  exact wwr
 rw [if_neg (by simpa using c2)]
 refine ww ?_
 refine qAa rfl (fun c3=>?_) (fun c3=>?_)
 ·rw [if_pos (by simpa using c3)]
  refine ww ?_
  exact wwr
 rw [if_neg (by simpa using c3)]
 refine ww ?_
 refine wwe ?_
 refine ww ?_
 exact wwr
theorem qHk (n:Int):Spec Tryz.prog 248 [.I n] [] (fun r h'=>r=.d (.bool (qMl n))∧h'=[]):=by
 unfold qMl
 rw [Bool.decide_and]
 refine qAb hT Tryz.func248 rfl rfl rfl rfl ?_;intro E hE
 refine ww ?_
 exact wwr
theorem qXe (t:Tpl):Spec Tryz.prog 339 [tAV t] [] (fun r h'=>r=.I (qDu t)∧h'=[]):=by
 rw [validT_part]
 obtain ⟨kind,part,frm,til,fmt,qual,data⟩:=t
 have hp:=vDf kind part
 have hv1:=qHk frm
 have hv2:=qHk til
 have hl:=encB_length data
 unfold tAV qNf
 simp only
 generalize qWi kind part=pf at hp
 generalize qMl frm=d1 at hv1
 generalize qMl til=d2 at hv2
 rw [← hl]
 generalize qAj data=eb at hl
 refine qAb hT Tryz.func339 rfl rfl rfl rfl ?_;intro E hE
 refine qAo ?_
 refine qAl (qAf ?_)
 refine qAd (boxAt_ok (i0:=0) rfl rfl rfl) rfl ?_
 refine ww ?_
 refine wwc hp ?_
 refine ww ?_
 refine qAa rfl (fun c0=>?_) (fun c0=>?_)
 ·rw [if_pos (by simpa using c0)]
  refine ww ?_
  exact wwr
 rw [if_neg (by simpa using c0)]
 refine ww ?_
 refine wwc hv1 ?_
 refine ww ?_
 refine wwgc hv2 ?_
 refine ww ?_
 refine qAa rfl (fun c2=>?_) (fun c2=>?_)
 ·have c2':d1=false∨d2=false∨frm > til:=by simpa [or_assoc] using c2
  rw [if_pos c2']
  refine ww ?_
  exact wwr
 have c2':¬ (d1=false∨d2=false∨frm > til):=by
  intro hh
  simp only [Bool.or_eq_false_iff,Bool.and_eq_false_iff,decide_eq_false_iff_not] at c2
  rcases hh with h | h | h <;> simp [h] at c2
 rw [if_neg c2']
 refine ww ?_
 refine qAa rfl (fun c3=>?_) (fun c3=>?_)
 ·have c3':fmt < 0∨fmt > 65535∨qual < 0∨qual > 100:=by simpa [or_assoc] using c3
  rw [if_pos c3']
  refine ww ?_
  exact wwr
 have c3':¬ (fmt < 0∨fmt > 65535∨qual < 0∨qual > 100):=by
  simp only [Bool.or_eq_false_iff,decide_eq_false_iff_not] at c3
  omega
 rw [if_neg c3']
 refine ww ?_
 refine qAa rfl (fun c4=>?_) (fun c4=>?_)
 ·have c4':eb.length < 1∨eb.length > 1024:=by
   simp only [Bool.or_eq_true,decide_eq_true_eq] at c4
   omega
  rw [if_pos c4']
  refine ww ?_
  exact wwr
 have c4':¬ (eb.length < 1∨eb.length > 1024):=by
  simp only [Bool.or_eq_false_iff,decide_eq_false_iff_not] at c4
  omega
 rw [if_neg c4']
 refine ww ?_
 refine wwe ?_
 refine ww ?_
 exact wwr
def vEa:List (List Dat):=fldT.map fun f=>[.int .i64 f.1,.int .i64 f.2]
theorem qWx:Spec Tryz.prog 340 [] [] (fun r h'=>r=.d (.sl 2 vEa)∧h'=[]):=by
 refine qAb hT Tryz.func340 rfl rfl rfl rfl ?_;intro E hE
 refine ww ?_
 exact wwr
def qRv (l:List Tpl):Int:=if l.length < 1∨l.length > 8 then 2 else qFb l
theorem checkT_spec (l:List Tpl) (hl:l.length≤1000000):Spec Tryz.prog 270 [.d (.sl 7 (qJi l))] [] (fun r h'=>r=.I (qRv l)∧h'=[]):=by
 have hll:=encTs_length l
 unfold qRv
 by_cases h1:l.length < 1∨l.length > 8
 case pos =>
  rw [if_pos h1]
  refine qAb hT Tryz.func270 rfl rfl rfl rfl ?_;intro E hE
  refine ww ?_
  refine qAa rfl (fun c1=>?_) (fun c1=>?_)
  ·refine ww ?_
   exact wwr
  ·exfalso
   simp only [Bool.or_eq_false_iff,decide_eq_false_iff_not] at c1
   omega
 rw [if_neg h1]
 generalize hfin:qFb l=fin
 refine qAb hT Tryz.func270 rfl rfl rfl rfl ?_;intro E hE
 refine ww ?_
 refine qAa rfl (fun c1=>?_) (fun c1=>?_)
 ·exfalso
  simp only [Bool.or_eq_true,decide_eq_true_eq] at c1
  omega
 refine ww ?_
 refine qBg (ι:=Nat) (fun i=>[(14,.d (.sl 7 (qJi l))),(15,.I ((qJi l).length:Int)),(16,.I (i:Int))]) (fun _=>[])
  (fun i=>i≤l.length∧qFb (l.drop i)=fin) (fun i=>l.length-i) 0 ⟨by omega,by simpa using hfin⟩ yf (HLe.refl _) ?_
 rintro i ⟨hi,hg⟩
 have hwr:IntKind.i64.wrap ((i:Int)+1)=((i+1:Nat):Int):=by rw [qAe (by omega)];simp
 refine ww ?_
 refine qAa rfl (fun c2=>?_) (fun c2=>?_)
 ·have c2':i < l.length:=by rw [hll] at c2;simpa using c2
  have hel:=encTs_at c2'
  have hdr:l.drop i=l[i]::l.drop (i+1):=List.drop_eq_getElem_cons c2'
  rw [hdr,qFb] at hg
  have hV:=qXe l[i]
  generalize qDu l[i]=vt at hV hg
  generalize l[i]=t at hel hV
  obtain ⟨t1,t2,t3,t4,t5,t6,t7⟩:=t
  unfold tAV qNf at hV
  unfold vMt at hel
  simp only at hV hel
  refine ww ?_
  refine wwi hel ?_
  refine ww ?_
  refine wwc hV ?_
  refine ww ?_
  refine qAa rfl (fun c3=>?_) (fun c3=>?_)
  ·have c3':vt≠0:=by simpa using c3
   rw [if_pos c3'] at hg
   subst hg
   refine ww ?_
   exact wwr
  have c3':¬ vt≠0:=by simpa using c3
  rw [if_neg c3'] at hg
  refine ww ?_
  exact ⟨i+1,[_],⟨c2',hg⟩,by omega,⟨.refl _,.refl _,.int hwr,trivial⟩,HLe.refl _,Env.below_mono hE (by simp),rfl,rfl⟩
 ·have c2':i=l.length:=by rw [hll] at c2;simp at c2;omega
  subst c2'
  rw [List.drop_length] at hg
  subst hg
  refine ww ?_
  exact wwr
end Tdoc
namespace Tdoc
open Go
def qHr (x:UInt8):Bool→List UInt8→Bool
 | _,[]=>true
 | b,c::l=>if c=x then !b&&!l.isEmpty&&qHr x true l else qHz c&&qHr x false l
theorem wordsB_name:∀ (b:Bool) (s:List UInt8),qHr 32 b s=qFm b s
 | _,[]=>by simp [qHr,qFm]
 | b,c::l=>by rw [qHr,qFm,wordsB_name true l,wordsB_name false l];rfl
theorem qNx (x c:UInt8) (l:List UInt8):Lib.index (c::l) [x]=if c=x then 0 else if Lib.index l [x] = -1 then -1 else Lib.index l [x]+1:=by
 conv=>lhs;unfold Lib.index
 by_cases h:c=x
 ·subst h;simp [List.isPrefixOf]
 ·have hp:([x]:List UInt8).isPrefixOf (c::l)=false:=by
   simp only [List.isPrefixOf,Bool.and_true,beq_eq_false_iff_ne,ne_eq]
   exact fun e=>h e.symm
  rw [hp,if_neg h]
  by_cases hm:Lib.index l [x] = -1 <;> simp [hm]
theorem replaceK_miss (x y c:UInt8) (l:List UInt8) (h:c≠x):∀ n,Lib.replaceK [x] [y] n (c::l)=c::Lib.replaceK [x] [y] n l
 | 0=>rfl
 | n+1=>by
  have hi:=qNx x c l
  rw [if_neg h] at hi
  have hge:=Lib.index_ge l [x]
  unfold Lib.replaceK
  by_cases hm:Lib.index l [x] = -1
  ·rw [if_pos hm] at hi
   rw [hi,hm];rfl
  ·rw [if_neg hm] at hi
   have h1:¬ (Lib.index l [x] == -1)=true:=by simpa using hm
   have h2:¬ (Lib.index (c::l) [x] == -1)=true:=by rw [hi];simp;omega
   rw [if_neg h1,if_neg h2,hi]
   have ht:(Lib.index l [x]+1).toNat=(Lib.index l [x]).toNat+1:=by omega
   rw [ht]
   simp [Nat.add_right_comm]
theorem vEf (x c:UInt8) (l:List UInt8):Lib.count (c::l) [x]=(if c=x then 1 else 0)+Lib.count l [x]:=by
 have hi:=qNx x c l
 by_cases h:c=x
 ·rw [if_pos h] at hi
  rw [if_pos h,Lib.count_hit (i:=0) (by simp) (by rw [hi];rfl)]
  rfl
 ·rw [if_neg h] at hi
  have hge:=Lib.index_ge l [x]
  rw [if_neg h,Nat.zero_add]
  by_cases hm:Lib.index l [x] = -1
  ·rw [if_pos hm] at hi
   rw [Lib.count_miss hi,Lib.count_miss hm]
  ·rw [if_neg hm] at hi
   have h1:Lib.index l [x]=((Lib.index l [x]).toNat:Int):=by omega
   have h2:Lib.index (c::l) [x]=(((Lib.index l [x]).toNat+1:Nat):Int):=by omega
   rw [Lib.count_hit (by simp) h1,Lib.count_hit (by simp) h2]
   simp [Nat.add_right_comm]
theorem replaceK_all (x y:UInt8):∀ (s:List UInt8),Lib.replaceK [x] [y] (Lib.count s [x]) s=s.map fun c=>if c=x then y else c
 | []=>by
  have h:Lib.index ([]:List UInt8) [x] = -1:=rfl
  rw [Lib.count_miss h];rfl
 | c::l=>by
  have ih:=replaceK_all x y l
  rw [vEf,List.map_cons]
  by_cases h:c=x
  ·subst h
   rw [if_pos rfl,if_pos rfl,Nat.add_comm,Lib.replaceK_hit [c] [y] _ (c::l) 0 (by rw [qNx,if_pos rfl];rfl),← ih]
   simp
  ·rw [if_neg h,if_neg h,Nat.zero_add,replaceK_miss x y c l h,ih]
theorem qVz (x y:UInt8) (h:x≠y) (s:List UInt8):Lib.replaceAll s [x] [y]=s.map fun c=>if c=x then y else c:=by
 unfold Lib.replaceAll Lib.replace
 rw [if_neg (by simpa using h)]
 unfold Lib.replaceNum
 rw [if_pos (.inl (by decide)),replaceK_all]
theorem validS_mem:∀ {s:List UInt8},qAt s=true↔∀ c,c∈s→0≤qQy (bI c)
 | []=>by simp [qAt]
 | c::l=>by simp [qAt,validS_mem (s:=l)]
theorem validS_sub {s t:List UInt8} (h:qAt s=true) (ht:∀ c,c∈t→c∈s):qAt t=true:=validS_mem.2 fun c hc=>validS_mem.1 h c (ht c hc)
theorem validS_drop {s:List UInt8} (a:Nat) (h:qAt s=true):qAt (s.drop a)=true:=validS_sub h fun c hc=>List.mem_of_mem_drop hc
theorem validS_tk {s:List UInt8} (a:Nat) (h:qAt s=true):qAt (s.take a)=true:=validS_sub h fun c hc=>List.mem_of_mem_take hc
end Tdoc
namespace Go.Proofs
open Go.Shelf
def Tryz.lays160_ren:Go.Shelf.Ren:=⟨fun | 160=>326 | 232=>368 | 231=>367 | 227=>369 | 234=>371 | 233=>370 | 236=>373 | 235=>372 | 228=>396 | 271=>398 | 151=>397 | 197=>380 | 120=>408 | 152=>407 | 260=>405 | 137=>411 | 119=>412 | 224=>401 | 225=>400 | 217=>399 | 266=>409 | n=>n,fun | 9=>9 | 4=>4 | 3=>3 | 5=>5 | 117=>387 | 116=>386 | 0=>0 | 124=>390 | 21=>21 | 105=>394 | 46=>298 | 119=>411 | 139=>414 | 138=>413 | n=>n,fun | 3=>7 | 4=>8 | n=>n⟩
theorem Tryz.lays160:Go.Proofs.Lays.n160 Tryz.prog Tryz.lays160_ren:={
 mixed:=by kernel_rfl
 f119:=Tryz.func412.trans (congrArg some (by kernel_rfl))
 f120:=Tryz.func408.trans (congrArg some (by kernel_rfl))
 f137:=Tryz.func411.trans (congrArg some (by kernel_rfl))
 f151:=Tryz.func397.trans (congrArg some (by kernel_rfl))
 f152:=Tryz.func407.trans (congrArg some (by kernel_rfl))
 f160:=Tryz.func326.trans (congrArg some (by kernel_rfl))
 f197:=Tryz.func380.trans (congrArg some (by kernel_rfl))
 f217:=Tryz.func399.trans (congrArg some (by kernel_rfl))
 f224:=Tryz.func401.trans (congrArg some (by kernel_rfl))
 f225:=Tryz.func400.trans (congrArg some (by kernel_rfl))
 f227:=Tryz.func369.trans (congrArg some (by kernel_rfl))
 f228:=Tryz.func396.trans (congrArg some (by kernel_rfl))
 f231:=Tryz.func367.trans (congrArg some (by kernel_rfl))
 f232:=Tryz.func368.trans (congrArg some (by kernel_rfl))
 f233:=Tryz.func370.trans (congrArg some (by kernel_rfl))
 f234:=Tryz.func371.trans (congrArg some (by kernel_rfl))
 f235:=Tryz.func372.trans (congrArg some (by kernel_rfl))
 f236:=Tryz.func373.trans (congrArg some (by kernel_rfl))
 f260:=Tryz.func405.trans (congrArg some (by kernel_rfl))
 f266:=Tryz.func409.trans (congrArg some (by kernel_rfl))
 f271:=Tryz.func398.trans (congrArg some (by kernel_rfl))
 t0:=Tryz.underlying0
 a0:=Tryz.isAgg0
 z0:=Tryz.sizeOf0
 v0:=Tryz.zeroValue0
 t3:=Tryz.underlying3
 a3:=Tryz.isAgg3
 z3:=Tryz.sizeOf3
 v3:=Tryz.zeroValue3
 t4:=Tryz.underlying4
 a4:=Tryz.isAgg4
 z4:=Tryz.sizeOf4
 v4:=Tryz.zeroValue4
 t5:=Tryz.underlying5
 a5:=Tryz.isAgg5
 z5:=Tryz.sizeOf5
 v5:=Tryz.zeroValue5
 t9:=Tryz.underlying9
 a9:=Tryz.isAgg9
 z9:=Tryz.sizeOf9
 v9:=Tryz.zeroValue9
 t21:=Tryz.underlying21
 a21:=Tryz.isAgg21
 z21:=Tryz.sizeOf21
 v21:=Tryz.zeroValue21
 t46:=Tryz.underlying298
 a46:=Tryz.isAgg298
 z46:=Tryz.sizeOf298
 v46:=Tryz.zeroValue298
 t105:=Tryz.underlying394
 a105:=Tryz.isAgg394
 z105:=Tryz.sizeOf394
 v105:=Tryz.zeroValue394
 t116:=Tryz.underlying386
 a116:=Tryz.isAgg386
 z116:=Tryz.sizeOf386
 t117:=Tryz.underlying387
 a117:=Tryz.isAgg387
 z117:=Tryz.sizeOf387
 v117:=Tryz.zeroValue387
 t119:=Tryz.underlying411
 a119:=Tryz.isAgg411
 z119:=Tryz.sizeOf411
 t124:=Tryz.underlying390
 a124:=Tryz.isAgg390
 z124:=Tryz.sizeOf390
 v124:=Tryz.zeroValue390
 t138:=Tryz.underlying413
 a138:=Tryz.isAgg413
 z138:=Tryz.sizeOf413
 v138:=Tryz.zeroValue413
 t139:=Tryz.underlying414
 a139:=Tryz.isAgg414
 z139:=Tryz.sizeOf414
 v139:=Tryz.zeroValue414
 g3:=by kernel_rfl
 g4:=by kernel_rfl }
def Tryz.lays144_ren:Go.Shelf.Ren:=⟨fun | 144=>255 | 143=>329 | 219=>375 | 217=>399 | 225=>400 | 224=>401 | 267=>402 | 266=>409 | 314=>410 | n=>n,fun | 9=>9 | 4=>4 | 3=>3 | 5=>5 | 46=>298 | 146=>349 | 51=>341 | n=>n,fun | 1=>6 | n=>n⟩
theorem Tryz.lays144:Go.Proofs.Lays.n144 Tryz.prog Tryz.lays144_ren:={
 mixed:=by kernel_rfl
 f143:=Tryz.func329.trans (congrArg some (by kernel_rfl))
 f144:=Tryz.func255.trans (congrArg some (by kernel_rfl))
 f217:=Tryz.func399.trans (congrArg some (by kernel_rfl))
 f219:=Tryz.func375.trans (congrArg some (by kernel_rfl))
 f224:=Tryz.func401.trans (congrArg some (by kernel_rfl))
 f225:=Tryz.func400.trans (congrArg some (by kernel_rfl))
 f266:=Tryz.func409.trans (congrArg some (by kernel_rfl))
 f267:=Tryz.func402.trans (congrArg some (by kernel_rfl))
 f314:=Tryz.func410.trans (congrArg some (by kernel_rfl))
 t3:=Tryz.underlying3
 a3:=Tryz.isAgg3
 z3:=Tryz.sizeOf3
 v3:=Tryz.zeroValue3
 t4:=Tryz.underlying4
 a4:=Tryz.isAgg4
 z4:=Tryz.sizeOf4
 v4:=Tryz.zeroValue4
 t5:=Tryz.underlying5
 a5:=Tryz.isAgg5
 z5:=Tryz.sizeOf5
 v5:=Tryz.zeroValue5
 t9:=Tryz.underlying9
 a9:=Tryz.isAgg9
 z9:=Tryz.sizeOf9
 v9:=Tryz.zeroValue9
 t46:=Tryz.underlying298
 a46:=Tryz.isAgg298
 z46:=Tryz.sizeOf298
 v46:=Tryz.zeroValue298
 t51:=Tryz.underlying341
 a51:=Tryz.isAgg341
 z51:=Tryz.sizeOf341
 v51:=Tryz.zeroValue341
 t146:=Tryz.underlying349
 a146:=Tryz.isAgg349
 z146:=Tryz.sizeOf349
 v146:=Tryz.zeroValue349
 g1:=by kernel_rfl }
open Go.RowKit Go.Lib in
theorem Tryz.strings_Contains_one (s:ByteArray) (c:UInt8) (w:World) :
  Calls Tryz.prog 255 #[.string s,.string ⟨#[c]⟩] w fun e w'=>e=.returned (.bool (decide (0≤Lib.indexByte s.data.toList c)))∧w'=w:=Any.strings_Contains_one Tryz.lays144 s c w
def Tryz.lays99_ren:Go.Shelf.Ren:=⟨fun | 99=>260 | 206=>333 | n=>n,fun | 9=>9 | 4=>4 | 3=>3 | n=>n,fun | n=>n⟩
theorem Tryz.lays99:Go.Proofs.Lays.n99 Tryz.prog Tryz.lays99_ren:={
 mixed:=by kernel_rfl
 f99:=Tryz.func260.trans (congrArg some (by kernel_rfl))
 f206:=Tryz.func333.trans (congrArg some (by kernel_rfl))
 t3:=Tryz.underlying3
 a3:=Tryz.isAgg3
 z3:=Tryz.sizeOf3
 v3:=Tryz.zeroValue3
 t4:=Tryz.underlying4
 a4:=Tryz.isAgg4
 z4:=Tryz.sizeOf4
 v4:=Tryz.zeroValue4
 t9:=Tryz.underlying9
 a9:=Tryz.isAgg9
 z9:=Tryz.sizeOf9
 v9:=Tryz.zeroValue9 }
open Go.RowKit Go.Lib in
theorem Tryz.strings_HasPrefix (s p:ByteArray) (w:World) :
  Calls Tryz.prog 260 #[.string s,.string p] w fun e w'=>e=.returned (.bool (Lib.hasPrefix s.data.toList p.data.toList))∧w'=w:=Any.strings_HasPrefix Tryz.lays99 s p w
def Tryz.lays100_ren:Go.Shelf.Ren:=⟨fun | 100=>330 | 207=>376 | n=>n,fun | 9=>9 | 4=>4 | 3=>3 | n=>n,fun | n=>n⟩
theorem Tryz.lays100:Go.Proofs.Lays.n100 Tryz.prog Tryz.lays100_ren:={
 mixed:=by kernel_rfl
 f100:=Tryz.func330.trans (congrArg some (by kernel_rfl))
 f207:=Tryz.func376.trans (congrArg some (by kernel_rfl))
 t3:=Tryz.underlying3
 a3:=Tryz.isAgg3
 z3:=Tryz.sizeOf3
 v3:=Tryz.zeroValue3
 t4:=Tryz.underlying4
 a4:=Tryz.isAgg4
 z4:=Tryz.sizeOf4
 v4:=Tryz.zeroValue4
 t9:=Tryz.underlying9
 a9:=Tryz.isAgg9
 z9:=Tryz.sizeOf9
 v9:=Tryz.zeroValue9 }
open Go.RowKit Go.Lib in
theorem Tryz.strings_HasSuffix (s p:ByteArray) (w:World) (hs:s.size≤9223372036854775807) :
  Calls Tryz.prog 330 #[.string s,.string p] w fun e w'=>e=.returned (.bool (Lib.hasSuffix s.data.toList p.data.toList))∧w'=w:=Any.strings_HasSuffix Tryz.lays100 s p w hs
def Tryz.lays155_ren:Go.Shelf.Ren:=⟨fun | 155=>265 | 154=>336 | 138=>379 | 165=>261 | 143=>329 | 166=>262 | 197=>380 | 169=>264 | 195=>403 | 218=>404 | 240=>334 | 241=>335 | 219=>375 | 260=>405 | 276=>377 | 277=>378 | 217=>399 | 225=>400 | 224=>401 | 267=>402 | 266=>409 | 314=>410 | n=>n,fun | 9=>9 | 3=>3 | 4=>4 | 72=>303 | 0=>0 | 76=>307 | 105=>394 | 21=>21 | 5=>5 | 70=>301 | 20=>20 | 37=>36 | 75=>306 | 127=>181 | 164=>392 | 46=>298 | 119=>411 | 139=>414 | 138=>413 | 146=>349 | 51=>341 | 80=>258 | n=>n,fun | 1=>6 | 3=>7 | 4=>8 | n=>n⟩
theorem Tryz.lays155:Go.Proofs.Lays.n155 Tryz.prog Tryz.lays155_ren:={
 mixed:=by kernel_rfl
 f138:=Tryz.func379.trans (congrArg some (by kernel_rfl))
 f143:=Tryz.func329.trans (congrArg some (by kernel_rfl))
 f154:=Tryz.func336.trans (congrArg some (by kernel_rfl))
 f155:=Tryz.func265.trans (congrArg some (by kernel_rfl))
 f165:=Tryz.func261.trans (congrArg some (by kernel_rfl))
 f166:=Tryz.func262.trans (congrArg some (by kernel_rfl))
 f169:=Tryz.func264.trans (congrArg some (by kernel_rfl))
 f195:=Tryz.func403.trans (congrArg some (by kernel_rfl))
 f197:=Tryz.func380.trans (congrArg some (by kernel_rfl))
 f217:=Tryz.func399.trans (congrArg some (by kernel_rfl))
 f218:=Tryz.func404.trans (congrArg some (by kernel_rfl))
 f219:=Tryz.func375.trans (congrArg some (by kernel_rfl))
 f224:=Tryz.func401.trans (congrArg some (by kernel_rfl))
 f225:=Tryz.func400.trans (congrArg some (by kernel_rfl))
 f240:=Tryz.func334.trans (congrArg some (by kernel_rfl))
 f241:=Tryz.func335.trans (congrArg some (by kernel_rfl))
 f260:=Tryz.func405.trans (congrArg some (by kernel_rfl))
 f266:=Tryz.func409.trans (congrArg some (by kernel_rfl))
 f267:=Tryz.func402.trans (congrArg some (by kernel_rfl))
 f276:=Tryz.func377.trans (congrArg some (by kernel_rfl))
 f277:=Tryz.func378.trans (congrArg some (by kernel_rfl))
 f314:=Tryz.func410.trans (congrArg some (by kernel_rfl))
 t0:=Tryz.underlying0
 a0:=Tryz.isAgg0
 z0:=Tryz.sizeOf0
 v0:=Tryz.zeroValue0
 t3:=Tryz.underlying3
 a3:=Tryz.isAgg3
 z3:=Tryz.sizeOf3
 v3:=Tryz.zeroValue3
 t4:=Tryz.underlying4
 a4:=Tryz.isAgg4
 z4:=Tryz.sizeOf4
 v4:=Tryz.zeroValue4
 t5:=Tryz.underlying5
 a5:=Tryz.isAgg5
 z5:=Tryz.sizeOf5
 v5:=Tryz.zeroValue5
 t9:=Tryz.underlying9
 a9:=Tryz.isAgg9
 z9:=Tryz.sizeOf9
 v9:=Tryz.zeroValue9
 t20:=Tryz.underlying20
 a20:=Tryz.isAgg20
 z20:=Tryz.sizeOf20
 v20:=Tryz.zeroValue20
 t21:=Tryz.underlying21
 a21:=Tryz.isAgg21
 z21:=Tryz.sizeOf21
 v21:=Tryz.zeroValue21
 t37:=Tryz.underlying36
 a37:=Tryz.isAgg36
 z37:=Tryz.sizeOf36
 v37:=Tryz.zeroValue36
 t46:=Tryz.underlying298
 a46:=Tryz.isAgg298
 z46:=Tryz.sizeOf298
 v46:=Tryz.zeroValue298
 t51:=Tryz.underlying341
 a51:=Tryz.isAgg341
 z51:=Tryz.sizeOf341
 v51:=Tryz.zeroValue341
 t70:=Tryz.underlying301
 a70:=Tryz.isAgg301
 z70:=Tryz.sizeOf301
 v70:=Tryz.zeroValue301
 t72:=Tryz.underlying303
 a72:=Tryz.isAgg303
 z72:=Tryz.sizeOf303
 v72:=Tryz.zeroValue303
 t75:=Tryz.underlying306
 a75:=Tryz.isAgg306
 z75:=Tryz.sizeOf306
 v75:=Tryz.zeroValue306
 t76:=Tryz.underlying307
 a76:=Tryz.isAgg307
 z76:=Tryz.sizeOf307
 v76:=Tryz.zeroValue307
 t105:=Tryz.underlying394
 a105:=Tryz.isAgg394
 z105:=Tryz.sizeOf394
 v105:=Tryz.zeroValue394
 t119:=Tryz.underlying411
 a119:=Tryz.isAgg411
 z119:=Tryz.sizeOf411
 t127:=Tryz.underlying181
 a127:=Tryz.isAgg181
 z127:=Tryz.sizeOf181
 v127:=Tryz.zeroValue181
 t138:=Tryz.underlying413
 a138:=Tryz.isAgg413
 z138:=Tryz.sizeOf413
 v138:=Tryz.zeroValue413
 t139:=Tryz.underlying414
 a139:=Tryz.isAgg414
 z139:=Tryz.sizeOf414
 v139:=Tryz.zeroValue414
 t146:=Tryz.underlying349
 a146:=Tryz.isAgg349
 z146:=Tryz.sizeOf349
 v146:=Tryz.zeroValue349
 t164:=Tryz.underlying392
 a164:=Tryz.isAgg392
 z164:=Tryz.sizeOf392
 v164:=Tryz.zeroValue392
 g1:=by kernel_rfl
 g3:=by kernel_rfl
 g4:=by kernel_rfl }
theorem Tryz.Builder_Extra_155:Builder.Extra Tryz.prog Tryz.lays155_ren:={
 sizeBuilder:=by kernel_rfl
 liesBuilder:=by kernel_rfl
 t5:=Tryz.underlying5
 a5:=Tryz.isAgg5
 z5:=Tryz.sizeOf5
 v5:=Tryz.zeroValue5
 infoByte:=by kernel_rfl
 cellsByte:=by kernel_rfl
 sizeByte:=by kernel_rfl
 neB5:=by decide }
open Go.RowKit Go.Lib in
theorem Tryz.strings_ReplaceAll (s old new:ByteArray) (m:Int) (w:World) (hs:s.size < 4294967281) (hm:w.cell? ⟨6,0,none⟩=some (.int .i64 m)) (h1:1≤old.size) (hlen:s.size+Lib.countB s old*new.size≤140737488355328) :
  Calls Tryz.prog 265 #[.string s,.string old,.string new] w fun e w' =>
   e=.returned (.string ⟨(Lib.replaceAll s.data.toList old.data.toList new.data.toList).toArray⟩)∧Below w.heap.size w w':=Any.strings_ReplaceAll Tryz.lays155 Tryz.Builder_Extra_155 s old new m w hs hm h1 hlen
def Tryz.lays105_ren:Go.Shelf.Ren:=⟨fun | 105=>165 | 212=>259 | 99=>260 | 165=>261 | 166=>262 | 170=>263 | 169=>264 | 263=>331 | 264=>332 | 206=>333 | 240=>334 | 241=>335 | 276=>377 | 277=>378 | n=>n,fun | 9=>9 | 3=>3 | 4=>4 | 20=>20 | 0=>0 | 46=>298 | 109=>299 | 5=>5 | 72=>303 | 76=>307 | 51=>341 | 146=>349 | 53=>351 | 148=>352 | 70=>301 | 37=>36 | 75=>306 | 127=>181 | 164=>392 | 80=>258 | n=>n,fun | n=>n⟩
theorem Tryz.lays105:Go.Proofs.Lays.n105 Tryz.prog Tryz.lays105_ren:={
 mixed:=by kernel_rfl
 f99:=Tryz.func260.trans (congrArg some (by kernel_rfl))
 f105:=Tryz.func165.trans (congrArg some (by kernel_rfl))
 f165:=Tryz.func261.trans (congrArg some (by kernel_rfl))
 f166:=Tryz.func262.trans (congrArg some (by kernel_rfl))
 f169:=Tryz.func264.trans (congrArg some (by kernel_rfl))
 f170:=Tryz.func263.trans (congrArg some (by kernel_rfl))
 f206:=Tryz.func333.trans (congrArg some (by kernel_rfl))
 f212:=Tryz.func259.trans (congrArg some (by kernel_rfl))
 f240:=Tryz.func334.trans (congrArg some (by kernel_rfl))
 f241:=Tryz.func335.trans (congrArg some (by kernel_rfl))
 f263:=Tryz.func331.trans (congrArg some (by kernel_rfl))
 f264:=Tryz.func332.trans (congrArg some (by kernel_rfl))
 f276:=Tryz.func377.trans (congrArg some (by kernel_rfl))
 f277:=Tryz.func378.trans (congrArg some (by kernel_rfl))
 t0:=Tryz.underlying0
 a0:=Tryz.isAgg0
 z0:=Tryz.sizeOf0
 v0:=Tryz.zeroValue0
 t3:=Tryz.underlying3
 a3:=Tryz.isAgg3
 z3:=Tryz.sizeOf3
 v3:=Tryz.zeroValue3
 t4:=Tryz.underlying4
 a4:=Tryz.isAgg4
 z4:=Tryz.sizeOf4
 v4:=Tryz.zeroValue4
 t5:=Tryz.underlying5
 a5:=Tryz.isAgg5
 z5:=Tryz.sizeOf5
 v5:=Tryz.zeroValue5
 t9:=Tryz.underlying9
 a9:=Tryz.isAgg9
 z9:=Tryz.sizeOf9
 v9:=Tryz.zeroValue9
 t20:=Tryz.underlying20
 a20:=Tryz.isAgg20
 z20:=Tryz.sizeOf20
 v20:=Tryz.zeroValue20
 t37:=Tryz.underlying36
 a37:=Tryz.isAgg36
 z37:=Tryz.sizeOf36
 v37:=Tryz.zeroValue36
 t46:=Tryz.underlying298
 a46:=Tryz.isAgg298
 z46:=Tryz.sizeOf298
 v46:=Tryz.zeroValue298
 t51:=Tryz.underlying341
 a51:=Tryz.isAgg341
 z51:=Tryz.sizeOf341
 v51:=Tryz.zeroValue341
 t53:=Tryz.underlying351
 a53:=Tryz.isAgg351
 z53:=Tryz.sizeOf351
 v53:=Tryz.zeroValue351
 t70:=Tryz.underlying301
 a70:=Tryz.isAgg301
 z70:=Tryz.sizeOf301
 v70:=Tryz.zeroValue301
 t72:=Tryz.underlying303
 a72:=Tryz.isAgg303
 z72:=Tryz.sizeOf303
 v72:=Tryz.zeroValue303
 t75:=Tryz.underlying306
 a75:=Tryz.isAgg306
 z75:=Tryz.sizeOf306
 v75:=Tryz.zeroValue306
 t76:=Tryz.underlying307
 a76:=Tryz.isAgg307
 z76:=Tryz.sizeOf307
 v76:=Tryz.zeroValue307
 t109:=Tryz.underlying299
 a109:=Tryz.isAgg299
 z109:=Tryz.sizeOf299
 v109:=Tryz.zeroValue299
 t127:=Tryz.underlying181
 a127:=Tryz.isAgg181
 z127:=Tryz.sizeOf181
 v127:=Tryz.zeroValue181
 t146:=Tryz.underlying349
 a146:=Tryz.isAgg349
 z146:=Tryz.sizeOf349
 v146:=Tryz.zeroValue349
 t148:=Tryz.underlying352
 a148:=Tryz.isAgg352
 z148:=Tryz.sizeOf352
 v148:=Tryz.zeroValue352
 t164:=Tryz.underlying392
 a164:=Tryz.isAgg392
 z164:=Tryz.sizeOf392
 v164:=Tryz.zeroValue392 }
theorem Tryz.Builder_Extra_105:Builder.Extra Tryz.prog Tryz.lays105_ren:={
 sizeBuilder:=by kernel_rfl
 liesBuilder:=by kernel_rfl
 t5:=Tryz.underlying5
 a5:=Tryz.isAgg5
 z5:=Tryz.sizeOf5
 v5:=Tryz.zeroValue5
 infoByte:=by kernel_rfl
 cellsByte:=by kernel_rfl
 sizeByte:=by kernel_rfl
 neB5:=by decide }
open Go.RowKit Go.Lib in
theorem Tryz.strings_Repeat (s:ByteArray) (c:Nat) (w:World) (hc:c≤9223372036854775807) (hlen:s.size*c≤140737488355328) :
  Calls Tryz.prog 165 #[.string s,.int .i64 c] w fun e w'=>e=.returned (.string ⟨(Lib.repeatL s.data.toList c).toArray⟩)∧Below w.heap.size w w':=Any.strings_Repeat Tryz.lays105 Tryz.Builder_Extra_105 s c w hc hlen
end Go.Proofs
namespace Tdoc
open Go Go.Proofs Go.RowKit
theorem qQd {f:FuncId} {fn:Func} (h:Tryz.prog.funcs[f]?=some fn) (h1:(fn.name == "runtime.NumGoroutine")=false) (h2:fn.body.isNone=false):∃ fn,Tryz.prog.funcs[f]?=some fn∧(fn.name == "runtime.NumGoroutine")=false∧fn.body.isNone=false:=⟨fn,h,h1,h2⟩
theorem args2 {G:Gh} {x y:AV} {vals:Array Value} (h1:vals.size=[x,y].length) (h2:∀ (j:Nat) (z:AV) (v:Value),[x,y][j]?=some z→vals[j]?=some v→RepA G z v):∃ u v,vals = #[u,v]∧RepA G x u∧RepA G y v:=by
 obtain ⟨l⟩:=vals
 match l,h1 with
 | [u,v],_=>exact ⟨u,v,rfl,h2 0 _ _ rfl rfl,h2 1 _ _ rfl rfl⟩
theorem args3 {G:Gh} {x y z:AV} {vals:Array Value} (h1:vals.size=[x,y,z].length) (h2:∀ (j:Nat) (a:AV) (v:Value),[x,y,z][j]?=some a→vals[j]?=some v→RepA G a v):∃ u v s,vals = #[u,v,s]∧RepA G x u∧RepA G y v∧RepA G z s:=by
 obtain ⟨l⟩:=vals
 match l,h1 with
 | [u,v,s],_=>exact ⟨u,v,s,rfl,h2 0 _ _ rfl rfl,h2 1 _ _ rfl rfl,h2 2 _ _ rfl rfl⟩
theorem qLh (s:List UInt8):(⟨s.toArray⟩:ByteArray).size=s.length:=by simp [ByteArray.size]
def upS:List UInt8:=[65,66,67,68,69,70,71,72,73,74,75,76,77,78,79,80,81,82,83,84,85,86,87,88,89,90]
theorem qXf (s:List UInt8) (hs:s.length≤1000000):Spec Tryz.prog 326 [.d (.str s),.d (.str upS)] [] (fun r h'=>r=.d (.str (Lib.trimS s upS))∧h'=[]) :=
 qJe (qQd Tryz.func326 rfl rfl) rfl fun G w vals h1 h2 ht hi=>by
  obtain ⟨u,v,rfl,hu,hv⟩:=args2 h1 h2
  rw [hu.str_inv,hv.str_inv]
  refine (Any.strings_Trim_laid Tryz.lays160 (by kernel_rfl) ⟨s.toArray⟩ ⟨upS.toArray⟩ w (by rw [qLh];omega) (by rw [qLh];decide) (ascii_of_all (by decide))).mono ?_
  rintro e w' ⟨rfl,hb⟩
  exact ⟨_,rfl,.d (.str _),hb⟩
theorem qOs (s:List UInt8):Spec Tryz.prog 255 [.d (.str s),.d (.str [60])] [] (fun r h'=>r=.d (.bool (decide (0≤Lib.indexByte s 60)))∧h'=[]) :=
 qJe (qQd Tryz.func255 rfl rfl) rfl fun G w vals h1 h2 ht hi=>by
  obtain ⟨u,v,rfl,hu,hv⟩:=args2 h1 h2
  rw [hu.str_inv,hv.str_inv]
  refine (Tryz.strings_Contains_one ⟨s.toArray⟩ 60 w).mono ?_
  rintro e w' ⟨rfl,rfl⟩
  exact ⟨_,rfl,.d (.bool _),Below.refl _ _⟩
theorem qPm (s p:List UInt8):Spec Tryz.prog 260 [.d (.str s),.d (.str p)] [] (fun r h'=>r=.d (.bool (Lib.hasPrefix s p))∧h'=[]) :=
 qJe (qQd Tryz.func260 rfl rfl) rfl fun G w vals h1 h2 ht hi=>by
  obtain ⟨u,v,rfl,hu,hv⟩:=args2 h1 h2
  rw [hu.str_inv,hv.str_inv]
  refine (Tryz.strings_HasPrefix ⟨s.toArray⟩ ⟨p.toArray⟩ w).mono ?_
  rintro e w' ⟨rfl,rfl⟩
  exact ⟨_,rfl,.d (.bool _),Below.refl _ _⟩
theorem qPl (s p:List UInt8) (hs:s.length≤1000000):Spec Tryz.prog 330 [.d (.str s),.d (.str p)] [] (fun r h'=>r=.d (.bool (Lib.hasSuffix s p))∧h'=[]) :=
 qJe (qQd Tryz.func330 rfl rfl) rfl fun G w vals h1 h2 ht hi=>by
  obtain ⟨u,v,rfl,hu,hv⟩:=args2 h1 h2
  rw [hu.str_inv,hv.str_inv]
  refine (Tryz.strings_HasSuffix ⟨s.toArray⟩ ⟨p.toArray⟩ w (by rw [qLh];omega)).mono ?_
  rintro e w' ⟨rfl,rfl⟩
  exact ⟨_,rfl,.d (.bool _),Below.refl _ _⟩
theorem qXs (a b:List UInt8):Spec Tryz.prog 296 [.d (.sl 1 (qAj a)),.d (.sl 1 (qAj b))] [] (fun r h'=>r=.d (.bool (a == b))∧h'=[]):=by
 refine qAb hT Tryz.func296 rfl rfl rfl rfl ?_;intro E hE
 refine ww ?_
 refine qHq hT rfl rfl (byteCells_encB a) ?_
 refine ww ?_
 refine qHq hT rfl rfl (byteCells_encB b) ?_
 rw [bytesOf_encB,bytesOf_encB]
 refine ww ?_
 exact wwr
theorem all_of_drop {p:UInt8→Bool}:∀ {s:List UInt8},s.dropWhile p=[]↔s.all p=true
 | []=>by simp
 | c::l=>by
  rw [List.dropWhile_cons,List.all_cons]
  by_cases h:p c=true
  ·rw [if_pos h,h,all_of_drop (s:=l)];simp
  ·rw [if_neg h];simp at h;simp [h]
theorem qXd (p:UInt8→Bool) (s:List UInt8):s.reverse.all p=s.all p:=by rw [List.all_reverse]
theorem qVr (c:UInt8):upS.contains c=qHz c:=by
 have h:∀ n,n < 256→upS.contains (UInt8.ofNat n)=qHz (UInt8.ofNat n):=by decide +kernel
 have:=h c.toNat (UInt8.toNat_lt c)
 rwa [UInt8.ofNat_toNat] at this
theorem trimS_nil {s:List UInt8}:(Lib.trimS s upS=[])↔s.all qHz=true:=by
 have hf:(fun c=>upS.contains c)=qHz:=funext qVr
 unfold Lib.trimS Lib.trimLeftS Lib.trimRightS
 rw [hf,all_of_drop]
 constructor
 ·intro h
  have h2:(s.reverse.dropWhile qHz).all qHz=true:=by rw [← qXd];exact h
  have h3:∀ t:List UInt8,(t.dropWhile qHz).all qHz=true→t.all qHz=true:=by
   intro t
   induction t with
   | nil=>intro _;rfl
   | cons c l ih =>
    intro h
    rw [List.dropWhile_cons] at h
    by_cases hc:qHz c=true
    ·rw [if_pos hc] at h;rw [List.all_cons,hc,ih h];rfl
    ·rw [if_neg hc] at h;exact h
  rw [← qXd];exact h3 _ h2
 ·intro h
  have:s.reverse.dropWhile qHz=[]:=all_of_drop.2 (by rw [qXd];exact h)
  rw [this];rfl
theorem qYs:∀ (s:List UInt8),decide (0≤Lib.indexByte s 60)=s.any (· == 60)
 | []=>by decide
 | c::l=>by
  have ih:=qYs l
  have hge:∀ l:List UInt8,-1≤Lib.indexByte l 60:=by
   intro l
   induction l with
   | nil=>decide
   | cons c l ih=>unfold Lib.indexByte;split;· omega
                  split <;> omega
  have hl:=hge l
  have hi:Lib.indexByte (c::l) 60=if c == 60 then 0 else if Lib.indexByte l 60 == -1 then -1 else Lib.indexByte l 60+1:=rfl
  rw [List.any_cons,← ih,hi]
  by_cases hc:(c == 60)=true
  ·rw [if_pos hc,hc];simp
  ·rw [if_neg hc]
   simp only [Bool.not_eq_true] at hc
   rw [hc]
   by_cases hm:Lib.indexByte l 60 = -1
   ·rw [if_pos (by simpa using hm),hm];rfl
   ·rw [if_neg (by simpa using hm),Bool.false_or]
    rw [Bool.eq_iff_iff];simp only [decide_eq_true_eq];omega
theorem qPu (s:List UInt8):Lib.hasPrefix s [60]=decide (s.head?=some 60):=by
 unfold Lib.hasPrefix
 cases s with
 | nil=>rfl
 | cons c l =>
  simp only [List.isPrefixOf,Bool.and_true,List.head?_cons,Option.some.injEq]
  by_cases h:c=60
  ·subst h;rfl
  ·rw [decide_eq_false h,beq_eq_false_iff_ne];exact fun e=>h e.symm
theorem qZz (s:List UInt8):Lib.hasSuffix s [60]=decide (s.getLast?=some 60):=by
 unfold Lib.hasSuffix List.isSuffixOf
 rw [show ([60]:List UInt8).reverse=[60] from rfl]
 have h:=qPu s.reverse
 unfold Lib.hasPrefix at h
 rw [h,List.head?_reverse]
end Tdoc
namespace Tdoc
open Go Go.Proofs
theorem letterP_spec (n:Int):Spec Tryz.prog 374 [.d (.int .u8 n)] [] (fun r h'=>r=.d (.bool (decide (n≥65)&&decide (n≤90)))∧h'=[]):=by
 refine qAb hT Tryz.func374 rfl rfl rfl rfl ?_;intro E hE
 refine ww ?_
 exact wwr
theorem qOk (n:Int) (hn:0≤n∧n < 256):Spec Tryz.prog 328 [.d (.int .u8 n)] [] (fun r h'=>r=.I (qQy n)∧h'=[]):=by
 have hl:=letterP_spec n
 unfold qQy
 refine qAb hT Tryz.func328 rfl rfl rfl rfl ?_;intro E hE
 refine ww ?_
 refine qAa rfl (fun h1=>?_) (fun h1=>?_)
 ·have h1':48≤n∧n≤57:=by simpa using h1
  rw [if_pos h1']
  have hw:IntKind.i64.wrap (IntKind.u8.wrap (n-48))=n-48:=by rw [wrapu8 (by omega),qAe (by omega)]
  refine ww ?_
  exact wwr
 ·have h1':¬ (48≤n∧n≤57):=by simpa using h1
  rw [if_neg h1']
  refine ww ?_
  refine wwc hl ?_
  refine ww ?_
  refine qAa rfl (fun h2=>?_) (fun h2=>?_)
  ·have h2':65≤n∧n≤90:=by simpa using h2
   rw [if_pos h2']
   have hw:IntKind.i64.wrap (IntKind.i64.wrap (IntKind.u8.wrap (n-65))+10)=n-55:=by rw [wrapu8 (by omega),qAe (n:=n-65) (by omega),qAe (by omega)];omega
   refine ww ?_
   exact wwr
  ·have h2':¬ (65≤n∧n≤90):=by simpa using h2
   rw [if_neg h2']
   refine ww ?_
   refine qAa rfl (fun h3=>?_) (fun h3=>?_)
   ·have h3':n=60:=by simpa using h3
    rw [if_pos h3']
    refine ww ?_
    exact wwr
   ·have h3':¬ n=60:=by simpa using h3
    rw [if_neg h3']
    refine ww ?_
    exact wwr
theorem qKd (s:List UInt8) (hs:s.length≤1000000):Spec Tryz.prog 254 [.d (.str s)] [] (fun r h'=>r=.d (.bool (qAt s))∧h'=[]):=by
 generalize hfin:qAt s=fin
 refine qAb hT Tryz.func254 rfl rfl rfl rfl ?_;intro E hE
 refine ww ?_
 refine qAq (ι:=Nat) (fun i=>[(0,.d (.str s)),(5,.I (s.length:Int)),(6,.I (i:Int))]) (fun _=>[]) (fun i=>i≤s.length∧qAt (s.drop i)=fin) (fun i=>s.length-i) 0 ⟨by omega,by simpa using hfin⟩ yf (HLe.refl _) ?_
 rintro i ⟨hi,hg⟩
 have hwr:IntKind.i64.wrap ((i:Int)+1)=((i+1:Nat):Int):=by rw [qAe (by omega)];simp
 refine ww ?_
 refine qAa rfl (fun h1=>?_) (fun h1=>?_)
 ·have h1':i < s.length:=by simpa using h1
  have hsa:=strAt_bI h1'
  rw [qUd h1',qAt] at hg
  have hr:=bI_range s[i]
  generalize s[i]=c at hsa hg hr
  have hv:=qOk (qDs s (i:Int)) (by rw [hsa];exact hr)
  rw [hsa] at hv
  rw [← hsa] at hv
  refine ww ?_
  refine wwc hv ?_
  refine ww ?_
  refine qAa rfl (fun h2=>?_) (fun h2=>?_)
  ·have h2':¬ 0≤qQy (bI c):=by rw [hsa] at h2;simp at h2;omega
   rw [decide_eq_false h2',Bool.false_and] at hg
   subst hg
   refine ww ?_
   exact wwr
  ·have h2':0≤qQy (bI c):=by rw [hsa] at h2;simp at h2;omega
   rw [decide_eq_true h2',Bool.true_and] at hg
   refine ww ?_
   exact ⟨i+1,⟨h1',hg⟩,by omega,⟨.refl _,.refl _,.int hwr,trivial⟩,HLe.refl _⟩
 ·have h1':i=s.length:=by simp at h1;omega
  subst h1'
  rw [List.drop_length] at hg
  subst hg
  refine ww ?_
  exact wwr
theorem qZw {x:UInt8} {s:List UInt8} {i:Nat} (h:i < s.length) (hs:s.length≤1000000) (hx:qHz x=false):qHr x (decide (i=0)||decide (s[i-1]?=some x)) (s.drop i) =
  (!(!(decide (qDs s (i:Int)≥65)&&decide (qDs s (i:Int)≤90))&&(qDs s (i:Int) != bI x||!(decide ((i:Int) > 0)&&decide ((i:Int) < IntKind.i64.wrap ((s.length:Int)-1))&&(qDs s (IntKind.i64.wrap ((i:Int)-1)) != bI x)))) &&
   qHr x (decide (i+1=0)||decide (s[i+1-1]?=some x)) (s.drop (i+1))):=by
 have hsa:=strAt_bI h
 have hsi:s[i+1-1]?=some s[i]:=by simp [h]
 have hwl:IntKind.i64.wrap ((s.length:Int)-1)=((s.length-1:Nat):Int):=by rw [qAe (by omega)];omega
 have hp:i≠0→(qDs s (IntKind.i64.wrap ((i:Int)-1)) != bI x)=!decide (s[i-1]?=some x):=fun h0=>by
  rw [qAe (by omega),show (i:Int)-1=((i-1:Nat):Int) by omega,strAt_bI (by omega),List.getElem?_eq_getElem (by omega:i-1 < s.length)]
  generalize s[i-1]'(by omega)=c
  have hc:bI c=bI x↔c=x:=vEm (c:=c) (d:=x)
  by_cases h1:c=x
  ·simp [h1]
  ·have:=mt hc.1 h1
   simp [h1,this]
 have he:decide ((i:Int) < ((s.length-1:Nat):Int))=!(s.drop (i+1)).isEmpty:=by
  by_cases h1:i+1=s.length
  ·rw [decide_eq_false (by omega)]
   have:s.drop (i+1)=[]:=List.drop_eq_nil_of_le (by omega)
   rw [this];rfl
  ·rw [decide_eq_true (by omega)]
   cases hd:s.drop (i+1) with
   | nil=>have:=congrArg List.length hd;simp at this;omega
   | cons a l=>rfl
 rw [qUd h,qHr,hwl,hsa,hsi,he]
 generalize s[i]=c at *
 have hc:bI c=bI x↔c=x:=vEm (c:=c) (d:=x)
 have hup:(decide (bI c≥65)&&decide (bI c≤90))=qHz c:=by
  unfold qHz
  rw [Bool.eq_iff_iff];simp
 have hn0:decide (i+1=0)=false:=by simp
 have hcx:decide (some c=some x)=decide (c=x):=by simp
 rw [hn0,Bool.false_or,hup,hcx]
 by_cases h1:c=x
 ·subst h1
  rw [if_pos rfl,hx,decide_eq_true rfl]
  have e1:(bI c != bI c)=false:=by simp
  rw [e1]
  by_cases h0:i=0
  ·subst h0
   simp
  ·rw [hp h0]
   have hd:decide (i=0)=false:=decide_eq_false h0
   have hd2:decide ((i:Int) > 0)=true:=decide_eq_true (by omega)
   rw [hd,hd2]
   generalize decide (s[i-1]?=some c)=a
   generalize (s.drop (i+1)).isEmpty=b
   generalize qHr c true (s.drop (i+1))=d
   revert a b d;decide
 ·have e1:(bI c != bI x)=true:=by simpa using mt hc.1 h1
  rw [if_neg h1,e1,decide_eq_false h1]
  cases qHz c <;> simp
theorem qZx (s:List UInt8) (x:UInt8) (hs:s.length≤1000000) (hx:qHz x=false):Spec Tryz.prog 327 [.d (.str s),.d (.int .u8 (bI x))] [] (fun r h'=>r=.d (.bool (qHr x true s))∧h'=[]):=by
 generalize hfin:qHr x true s=fin
 refine qAb hT Tryz.func327 rfl rfl rfl rfl ?_;intro E hE
 refine ww ?_
 refine qAq (ι:=Nat) (fun i=>[(0,.d (.str s)),(1,.d (.int .u8 (bI x))),(8,.I (s.length:Int)),(9,.I (i:Int))]) (fun _=>[]) (fun i=>i≤s.length∧qHr x (decide (i=0)||decide (s[i-1]?=some x)) (s.drop i)=fin) (fun i=>s.length-i) 0 ⟨by omega,by simpa using hfin⟩ yf (HLe.refl _) ?_
 rintro i ⟨hi,hg⟩
 have hwr:IntKind.i64.wrap ((i:Int)+1)=((i+1:Nat):Int):=by rw [qAe (by omega)];simp
 refine ww ?_
 refine qAa rfl (fun h1=>?_) (fun h1=>?_)
 ·have h1':i < s.length:=by simpa using h1
  have hst:=qZw h1' hs hx
  rw [hst] at hg
  have hl:=letterP_spec (qDs s (i:Int))
  have hwi:(i:Int) > 0→IntKind.i64.wrap ((i:Int)-1)=(i:Int)-1:=fun _=>qAe (by omega)
  refine ww ?_
  refine wwc hl ?_
  refine ww ?_
  refine qAa rfl (fun h2=>?_) (fun h2=>?_)
  ·rw [h2] at hg
   simp only [Bool.not_true,Bool.false_and] at hg
   subst hg
   refine ww ?_
   exact wwr
  ·rw [h2] at hg
   simp only [Bool.not_false,Bool.true_and] at hg
   refine ww ?_
   exact ⟨i+1,⟨h1',hg⟩,by omega,⟨.refl _,.refl _,.refl _,.int hwr,trivial⟩,HLe.refl _⟩
 ·have h1':i=s.length:=by simp at h1;omega
  subst h1'
  rw [List.drop_length] at hg
  subst hg
  refine ww ?_
  exact wwr
theorem qJf (s:List UInt8) (hs:s.length≤1000000):Spec Tryz.prog 253 [.d (.str s)] [] (fun r h'=>r=.d (.bool (qFm true s))∧h'=[]):=by
 have hw:=qZx s 32 hs rfl
 rw [wordsB_name] at hw
 refine qAb hT Tryz.func253 rfl rfl rfl rfl ?_;intro E hE
 refine ww ?_
 refine wwc hw ?_
 refine ww ?_
 exact wwr
def lensD:List Dat:=[.int .i64 31,.int .i64 28,.int .i64 31,.int .i64 30,.int .i64 31,.int .i64 30,.int .i64 31,.int .i64 31,.int .i64 30,.int .i64 31,.int .i64 30,.int .i64 31]
theorem lensD_at {y m:Int} (hm:1≤m∧m≤12) (h:¬ (m=2∧qNu y=true)):lensD[(m-1).toNat]?=some (.int .i64 (qGr y m)):=by
 have h12:m=1∨m=2∨m=3∨m=4∨m=5∨m=6∨m=7∨m=8∨m=9∨m=10∨m=11∨m=12:=by omega
 unfold qGr
 rcases h12 with rfl | rfl | rfl | rfl | rfl | rfl | rfl | rfl | rfl | rfl | rfl | rfl
 all_goals first | rfl | (have hl:qNu y=false:=by simpa using h
                          rw [hl];rfl)
theorem leapP_spec (y:Int) (hy:1900≤y∧y≤2099):Spec Tryz.prog 324 [.I y] [] (fun r h'=>r=.d (.bool (qNu y))∧h'=[]):=by
 have e1:y.tmod 4=y % 4:=Int.tmod_eq_emod_of_nonneg (by omega)
 have e2:y.tmod 100=y % 100:=Int.tmod_eq_emod_of_nonneg (by omega)
 have e3:y.tmod 400=y % 400:=Int.tmod_eq_emod_of_nonneg (by omega)
 have hl:qNu y=(y.tmod 4 == 0&&(y.tmod 100 != 0||y.tmod 400 == 0)):=by
  unfold qNu
  rw [e1,e2,e3,Bool.eq_iff_iff]
  simp only [Bool.and_eq_true,decide_eq_true_eq,beq_iff_eq,Bool.or_eq_true,bne_iff_ne,ne_eq]
  omega
 rw [hl]
 refine qAb hT Tryz.func324 rfl rfl rfl rfl ?_;intro E hE
 refine ww ?_
 exact wwr
theorem daysP_spec (y m:Int) (hy:1900≤y∧y≤2099) (hm:1≤m∧m≤12):Spec Tryz.prog 250 [.I y,.I m] [] (fun r h'=>r=.I (qGr y m)∧h'=[]):=by
 have hlp:=leapP_spec y hy
 have hat:=lensD_at (y:=y) hm
 have h29:m=2→qNu y=true→qGr y m=29:=fun h1 h2=>by unfold qGr;rw [h1,h2];rfl
 generalize qNu y=lp at hlp hat h29
 generalize qGr y m=lg at hat h29
 have hwr:IntKind.i64.wrap (m-1)=m-1:=qAe (by omega)
 refine qAb hT Tryz.func250 rfl rfl rfl rfl ?_;intro E hE
 refine ww ?_
 refine wwgc hlp ?_
 refine ww ?_
 refine qAa rfl (fun c1=>?_) (fun c1=>?_)
 ·have c1':m=2∧lp=true:=by simpa using c1
  rw [h29 c1'.1 c1'.2]
  refine ww ?_
  exact wwr
 ·have c1':¬ (m=2∧lp=true):=by simpa using c1
  have hd:=hat c1'
  refine ww ?_
  refine qAd (qAc (arrAddr_ok (cs:=lensD) hT rfl rfl rfl rfl (by rw [hwr];omega))) rfl ?_
  rw [hwr,Nat.mul_one]
  generalize hcs:lensD.drop (m-1).toNat=cs
  have hd0:cs[0]?=some (.int .i64 lg):=by rw [← hcs];simpa using hd
  match cs,hd0 with
  | d::cs,hd0 =>
   simp only [List.getElem?_cons_zero,Option.some.injEq] at hd0
   subst hd0
   refine ww ?_
   exact wwr
theorem beforeP_spec (n:Nat) (hn:n≤200):Spec Tryz.prog 249 [.I (1900+(n:Int))] [] (fun r h'=>r=.I (qCv n)∧h'=[]):=by
 have hw0:IntKind.i64.wrap (365*IntKind.i64.wrap (1900+(n:Int)-1900))=365*(n:Int):=by rw [qAe (n:=1900+(n:Int)-1900) (by omega),qAe (by omega)];omega
 refine qAb hT Tryz.func249 rfl rfl rfl rfl ?_;intro E hE
 refine ww ?_
 refine qAq (ι:=Nat) (fun k=>[(0,.I (1900+(n:Int))),(3,.I (365*(n:Int)+(qCv k-365*(k:Int)))),(4,.I (1900+(k:Int)))]) (fun _=>[]) (fun k=>k≤n) (fun k=>n-k) 0 (by omega) ⟨.refl _,.int (by rw [hw0];simp [qCv]),.refl _,trivial⟩ (HLe.refl _) ?_
 intro k hk
 have hyr:=yearsR_range k
 have hw1:IntKind.i64.wrap (1900+(k:Int)+1)=1900+((k+1:Nat):Int):=by rw [qAe (by omega)];omega
 have hys:qCv (k+1)=qCv k+365+(if qNu (1900+(k:Int))=true then 1 else 0):=rfl
 refine ww ?_
 refine qAa rfl (fun c2=>?_) (fun c2=>?_)
 ·have c2':k < n:=by simp at c2;omega
  have hlp:=leapP_spec (1900+(k:Int)) (by omega)
  have hlow:365*(k:Int)≤qCv k:=by
   clear hlp hys hw1 c2 c2' hyr hw0 hE
   induction k with
   | zero=>simp [qCv]
   | succ k ih=>have:=ih (by omega);rw [qCv];split <;> omega
  have hw3:IntKind.i64.wrap (365*(n:Int)+(qCv k-365*(k:Int))+1)=365*(n:Int)+(qCv k-365*(k:Int))+1:=qAe (by omega)
  generalize qNu (1900+(k:Int))=lp at hlp hys
  refine ww ?_
  refine wwc hlp ?_
  refine ww ?_
  refine qAa rfl (fun c3=>?_) (fun c3=>?_)
  ·rw [if_pos c3] at hys
   refine ww ?_
   exact ⟨k+1,by omega,by omega,⟨.refl _,.int (by rw [hw3,hys];omega),.int hw1,trivial⟩,HLe.refl _⟩
  ·rw [if_neg (by simp [c3])] at hys
   refine ww ?_
   exact ⟨k+1,by omega,by omega,⟨.refl _,.int (by rw [hys];omega),.int hw1,trivial⟩,HLe.refl _⟩
 ·have c2':k=n:=by simp at c2;omega
  subst c2'
  have he:365*(k:Int)+(qCv k-365*(k:Int))=qCv k:=by omega
  rw [he]
  refine ww ?_
  exact wwr
theorem vIc (y m d:Int) (hb : -1000000≤d∧d≤1000000):Spec Tryz.prog 325 [.I y,.I m,.I d] [] (fun r h'=>r=.tup [.d (.int .i64 (ofF y m d).1),.d (.int .i64 (ofF y m d).2)]∧h'=[]):=by
 unfold ofF
 have hlr:=longR_range y m
 have hlg:1900≤y∧y≤2099→1≤m∧m≤12→_:=daysP_spec y m
 generalize hlm:qGr y m=lm at hlg hlr
 refine qAb hT Tryz.func325 rfl rfl rfl rfl ?_;intro E hE
 refine ww ?_
 refine qCh rfl rfl rfl (fun hg=>⟨(sg (C:=True) hg).1,qBl rfl rfl (hlg (by simp [gval] at hg;omega) (by simp [gval] at hg;omega)) rfl rfl rfl⟩) ?_
 refine ww ?_
 refine qAa rfl (fun c1=>?_) (fun c1=>?_)
 ·have c1':y < 1900∨y > 2099∨m < 1∨m > 12∨d < 1∨d > lm:=by simp at c1;omega
  rw [if_pos c1']
  refine ww ?_
  exact wwr
 ·have c1':¬ (y < 1900∨y > 2099∨m < 1∨m > 12∨d < 1∨d > lm):=by simp at c1;omega
  rw [if_neg c1']
  obtain ⟨yn,rfl⟩:∃ yn:Nat,y=1900+(yn:Int):=⟨(y-1900).toNat,by omega⟩
  obtain ⟨mn,rfl⟩:∃ mn:Nat,m=(mn:Int)+1:=⟨(m-1).toNat,by omega⟩
  rw [show (1900+(yn:Int)-1900).toNat=yn by omega,show ((mn:Int)+1-1).toNat=mn by omega]
  have hbf:=beforeP_spec yn (by omega)
  have hyr:=yearsR_range yn
  have hwd:IntKind.i64.wrap (IntKind.i64.wrap (qCv yn+d)-1)=qCv yn+d-1:=by rw [qAe (n:=qCv yn+d) (by omega),qAe (by omega)]
  refine ww ?_
  refine wwc hbf ?_
  refine ww ?_
  refine qAq (ι:=Nat) (fun i=>[(0,.I (1900+(yn:Int))),(1,.I ((mn:Int)+1)),(8,.I (d-1+qCv yn+qFh (1900+(yn:Int)) i)),(9,.I ((i:Int)+1))]) (fun _=>[]) (fun i=>i≤mn) (fun i=>mn-i) 0 (by omega) ⟨.refl _,.refl _,.int (by rw [hwd];simp [qFh];omega),.refl _,trivial⟩ (HLe.refl _) ?_
  intro i hi
  have hmr:=monthsR_range (1900+(yn:Int)) i
  have hw4:IntKind.i64.wrap ((i:Int)+1+1)=((i+1:Nat):Int)+1:=by rw [qAe (by omega)];omega
  refine ww ?_
  refine qAa rfl (fun c4=>?_) (fun c4=>?_)
  ·have c4':i < mn:=by simp at c4;omega
   have hlg:=daysP_spec (1900+(yn:Int)) ((i:Int)+1) (by omega) (by omega)
   have hlr2:=longR_range (1900+(yn:Int)) ((i:Int)+1)
   have hms:qFh (1900+(yn:Int)) (i+1)=qFh (1900+(yn:Int)) i+qGr (1900+(yn:Int)) ((i:Int)+1):=rfl
   generalize qGr (1900+(yn:Int)) ((i:Int)+1)=lg at hlg hlr2 hms
   have hw5:IntKind.i64.wrap (d-1+qCv yn+qFh (1900+(yn:Int)) i+lg)=d-1+qCv yn+qFh (1900+(yn:Int)) (i+1):=by rw [qAe (by omega),hms];omega
   refine ww ?_
   refine wwc hlg ?_
   refine ww ?_
   exact ⟨i+1,by omega,by omega,⟨.refl _,.refl _,.int hw5,.int hw4,trivial⟩,HLe.refl _⟩
  ·have c4':i=mn:=by simp at c4;omega
   subst c4'
   refine ww ?_
   exact wwr
theorem dayParseP_spec (s:List UInt8) (first:Int) (hs:s.length≤1000000):Spec Tryz.prog 251 [.d (.str s),.I first] [] (fun r h'=>r=.tup [.d (.int .i64 (qFp s first).1),.d (.int .i64 (qFp s first).2)]∧h'=[]):=by
 unfold qFp
 refine qAb hT Tryz.func251 rfl rfl rfl rfl ?_;intro E hE
 refine ww ?_
 refine qAa rfl (fun c1=>?_) (fun c1=>?_)
 ·have c1':first < 1900∨first > 2000:=by simpa using c1
  rw [if_pos c1']
  refine ww ?_
  exact wwr
 have c1':¬ (first < 1900∨first > 2000):=by simpa using c1
 rw [if_neg c1']
 refine ww ?_
 refine qAa rfl (fun c2=>?_) (fun c2=>?_)
 ·have c2':s.length≠6:=by simp at c2;omega
  rw [if_pos c2']
  refine ww ?_
  exact wwr
 have c2':¬ s.length≠6:=by simp at c2;omega
 have hlen:s.length=6:=by omega
 rw [if_neg c2']
 refine ww ?_
 refine qAq (ι:=Nat) (fun i=>[(0,.d (.str s)),(1,.I first),(6,.ptr 0 0),(19,.I (s.length:Int)),(20,.I (i:Int))]) (fun i=>[.row [.I (pN s 0 i),.I (pN s 2 i),.I (pN s 4 i)]]) (fun i=>i≤6∧∀ k,k < i→qFo (s.getD k 0)=true) (fun i=>6-i) 0 ⟨by omega,fun k hk=>by omega⟩ yf (HLe.refl _) ?_
 rintro i ⟨hi,hd⟩
 have hwr:IntKind.i64.wrap ((i:Int)+1)=((i+1:Nat):Int):=by rw [qAe (by omega)];simp
 have hall:(∀ k,k < 6→qFo (s.getD k 0)=true)→s.all qFo=true:=fun h=>by
  rw [List.all_eq_true]
  intro c hc
  obtain ⟨k,hk,rfl⟩:=List.getElem_of_mem hc
  have:=h k (by omega)
  rw [List.getD_eq_getElem?_getD,List.getElem?_eq_getElem hk] at this
  exact this
 have hdr:∀ k,k < i→0≤vGc s k∧vGc s k≤9:=fun k hk=>by have:=(isDig_iff _).1 (hd k hk);unfold vGc;omega
 refine ww ?_
 refine qAa rfl (fun c3=>?_) (fun c3=>?_)
 ·have c3':i < 6:=by simp at c3;omega
  have hsa:qDs s (i:Int)=bI (s.getD i 0):=by unfold qDs bI;rw [List.getD_eq_getElem?_getD,Int.toNat_natCast]
  have hbr:=bI_range (s.getD i 0)
  refine ww ?_
  refine qAa rfl (fun c4=>?_) (fun c4=>?_)
  ·have c4':s.all qFo=false:=by
    rw [hsa] at c4
    have hn:qFo (s.getD i 0)=false:=by
     cases hx:qFo (s.getD i 0) with
     | false=>rfl
     | true=>have:=(isDig_iff _).1 hx;simp only [Bool.or_eq_true,decide_eq_true_eq] at c4;omega
    cases hx:s.all qFo with
    | false=>rfl
    | true =>
     rw [List.all_eq_true] at hx
     have:=hx (s.getD i 0) (by rw [List.getD_eq_getElem?_getD,List.getElem?_eq_getElem (by omega)];exact List.getElem_mem _)
     rw [hn] at this;cases this
   rw [if_pos c4']
   refine ww ?_
   exact wwr
  ·have c4':qFo (s.getD i 0)=true:=by rw [hsa] at c4;exact (isDig_iff _).2 (by simp only [Bool.or_eq_false_iff,decide_eq_false_iff_not] at c4;omega)
   have hdi:=(isDig_iff _).1 c4'
   have hX:∀ p:Int,0≤p∧p≤9→IntKind.i64.wrap (IntKind.i64.wrap (10*p)+IntKind.i64.wrap (IntKind.u8.wrap (qDs s (i:Int)-48)))=10*p+vGc s i:=fun p hp=>by
    rw [hsa,wrapu8 (by omega),qAe (n:=10*p) (by omega),qAe (n:=bI (s.getD i 0)-48) (by omega),qAe (by unfold vGc at *;omega)];rfl
   have hd':∀ k,k < i+1→qFo (s.getD k 0)=true:=fun k hk=>by
    by_cases h:k=i
    ·rw [h];exact c4'
    ·exact hd k (by omega)
   refine wwe ?_
   have h6:i=0∨i=1∨i=2∨i=3∨i=4∨i=5:=by omega
   rcases h6 with rfl | rfl | rfl | rfl | rfl | rfl
   all_goals
    refine qBp (fun i=>bif Nat.beq i 5||Nat.beq i 14 then [0] else []) (fun i=>bif Nat.beq i 14 then [0] else []) mixed (by kernel_rfl) ?_
    refine wwg ?_
    refine qIs (arrPtr_ok hT rfl rfl rfl rfl (by decide)) rfl rfl ?_
    refine wwg ?_
    refine qIs (arrPtr_ok hT rfl rfl rfl rfl (by decide)) rfl rfl ?_
    refine wwg ?_
    refine ww ?_
   ·exact ⟨1,⟨by omega,hd'⟩,by omega,⟨.refl _,.refl _,.refl _,.refl _,.int hwr,trivial⟩,⟨ObLe.row (by show [AV.d (.int .i64 _),_,_]=_;rw [hX _ (by simp [pN])];simp [pN]),trivial⟩⟩
   ·exact ⟨2,⟨by omega,hd'⟩,by omega,⟨.refl _,.refl _,.refl _,.refl _,.int hwr,trivial⟩,⟨ObLe.row (by show [AV.d (.int .i64 _),_,_]=_;rw [hX _ (by simp [pN];exact hdr 0 (by omega))];simp [pN]),trivial⟩⟩
   ·exact ⟨3,⟨by omega,hd'⟩,by omega,⟨.refl _,.refl _,.refl _,.refl _,.int hwr,trivial⟩,⟨ObLe.row (by show [_,AV.d (.int .i64 _),_]=_;rw [hX _ (by simp [pN])];simp [pN]),trivial⟩⟩
   ·exact ⟨4,⟨by omega,hd'⟩,by omega,⟨.refl _,.refl _,.refl _,.refl _,.int hwr,trivial⟩,⟨ObLe.row (by show [_,AV.d (.int .i64 _),_]=_;rw [hX _ (by simp [pN];exact hdr 2 (by omega))];simp [pN]),trivial⟩⟩
   ·exact ⟨5,⟨by omega,hd'⟩,by omega,⟨.refl _,.refl _,.refl _,.refl _,.int hwr,trivial⟩,⟨ObLe.row (by show [_,_,AV.d (.int .i64 _)]=_;rw [hX _ (by simp [pN])];simp [pN]),trivial⟩⟩
   ·exact ⟨6,⟨by omega,hd'⟩,by omega,⟨.refl _,.refl _,.refl _,.refl _,.int hwr,trivial⟩,⟨ObLe.row (by show [_,_,AV.d (.int .i64 _)]=_;rw [hX _ (by simp [pN];exact hdr 4 (by omega))];simp [pN]),trivial⟩⟩
 ·have c3':i=6:=by simp at c3;omega
  subst c3'
  have hal:=hall hd
  rw [if_neg (by rw [hal];simp)]
  have e0:pN s 0 6=qHa s 0:=rfl
  have e2:pN s 2 6=qHa s 2:=rfl
  have e4:pN s 4 6=qHa s 4:=rfl
  have r0:0≤qHa s 0∧qHa s 0≤99:=by have a:=hdr 0 (by omega);have b:=hdr 1 (by omega);unfold vGc at a b;unfold qHa;simp only [Nat.zero_add];omega
  rw [e0,e2,e4]
  have r4:0≤qHa s 4∧qHa s 4≤99:=by have a:=hdr 4 (by omega);have b:=hdr 5 (by omega);unfold vGc at a b;unfold qHa;simp only [Nat.reduceAdd];omega
  have ho:=fun y=>vIc y (qHa s 2) (qHa s 4) (by omega)
  generalize qHa s 0=p0 at *
  generalize qHa s 2=p2 at *
  generalize qHa s 4=p4 at *
  have ht:first.tmod 100=first % 100:=Int.tmod_eq_emod_of_nonneg (by omega)
  have hy:IntKind.i64.wrap (IntKind.i64.wrap (first-first.tmod 100)+p0)=first-first.tmod 100+p0:=by rw [qAe (n:=first-first.tmod 100) (by omega),qAe (by omega)]
  have hy2:IntKind.i64.wrap (IntKind.i64.wrap (IntKind.i64.wrap (first-first.tmod 100)+p0)+100)=first-first.tmod 100+p0+100:=by rw [hy,qAe (by omega)]
  refine ww ?_
  first | refine qAd (qAc (arrPtr_ok hT rfl rfl rfl rfl (by decide))) rfl ?_ | refine qBc (qAc (arrPtr_ok hT rfl rfl rfl rfl (by decide))) rfl rfl ?_
  refine wws ?_
  refine qCf (ι:=Unit) (fun _=>[(6,.ptr 0 0),(8,.I (if first-first.tmod 100+p0 < first then first-first.tmod 100+p0+100 else first-first.tmod 100+p0))]) (fun _=>[.row [.I p0,.I p2,.I p4]]) (fun _=>True) ?_ (fun _ _=>?_)
  ·refine ww ?_
   refine qAa rfl (fun c5=>?_) (fun c5=>?_)
   ·have c5':first-first.tmod 100+p0 < first:=by rw [hy] at c5;simpa using c5
    rw [if_pos c5']
    refine ww ?_
    exact ⟨(),trivial,⟨.refl _,.int hy2,trivial⟩,HLe.refl _⟩
   ·have c5':¬ first-first.tmod 100+p0 < first:=by rw [hy] at c5;simpa using c5
    rw [if_neg c5']
    refine ww ?_
    exact ⟨(),trivial,⟨.refl _,.int hy,trivial⟩,HLe.refl _⟩
  ·have ho:=ho (if first-first.tmod 100+p0 < first then first-first.tmod 100+p0+100 else first-first.tmod 100+p0)
   simp only
   generalize (if first-first.tmod 100+p0 < first then first-first.tmod 100+p0+100 else first-first.tmod 100+p0)=y at ho
   refine ww ?_
   first | refine qAd (qAc (arrPtr_ok hT rfl rfl rfl rfl (by decide))) rfl ?_ | refine qBc (qAc (arrPtr_ok hT rfl rfl rfl rfl (by decide))) rfl rfl ?_
   refine ww ?_
   first | refine qAd (qAc (arrPtr_ok hT rfl rfl rfl rfl (by decide))) rfl ?_ | refine qBc (qAc (arrPtr_ok hT rfl rfl rfl rfl (by decide))) rfl rfl ?_
   refine ww ?_
   refine wwc ho ?_
   refine ww ?_
   exact wwr
def qGu (l:List (List UInt8)):List (List Dat):=l.map fun s=>[.str s]
theorem qDd (s:List UInt8):(qBx s).1.length≤1:=by unfold qBx qZb;split <;> simp
theorem qOe {s:List UInt8} (h:qAt s=true):(qBx s).1.length=1:=by unfold qBx qZb;rw [if_pos h];rfl
theorem validS_append:∀ (a b:List UInt8),qAt (a++b)=(qAt a&&qAt b)
 | [],b=>by simp [qAt]
 | c::a,b=>by rw [List.cons_append,qAt,qAt,validS_append a b,Bool.and_assoc]
theorem validS_fill:∀ (n:Nat),qAt (List.replicate n 60)=true
 | 0=>rfl
 | n+1=>by rw [List.replicate_succ,qAt,validS_fill n];rfl
theorem validS_wide {s:List UInt8} (n:Nat) (h:qAt s=true):qAt (qBo s n)=true:=by unfold qBo;rw [validS_append,h,validS_fill];rfl
theorem qNc:∀ {s:List UInt8},qNj s=true→qAt s=true
 | [],_=>rfl
 | c::s,h=>by
  rw [qNj,List.all_cons,Bool.and_eq_true,decide_eq_true_eq] at h
  rw [qAt,qNc h.2,Bool.and_true,decide_eq_true_eq]
  exact h.1.2
theorem qNd:∀ {s:List UInt8},s.all qFo=true→qAt s=true
 | [],_=>rfl
 | c::s,h=>by
  rw [List.all_cons,Bool.and_eq_true] at h
  have:=(isDig_iff _).1 h.1
  rw [qAt,qNd h.2,Bool.and_true,decide_eq_true_eq]
  unfold qQy;rw [if_pos this];omega
theorem qLc {a b:UInt8} (h:qDb [a,b] > -2):qAt [a,b]=true:=by
 unfold qDb at h
 split at h
 ·rename_i h1;rw [h1];rfl
 ·split at h
  ·rename_i h1 h2
   exact qNd (by simp only [List.all_cons,List.all_nil,Bool.and_true,Bool.and_eq_true];exact h2)
  ·omega
theorem qVq {s:List UInt8} (h:qIp s=true):s.length=6∧qAt s=true:=by
 unfold qIp at h
 simp only [Bool.and_eq_true,decide_eq_true_eq] at h
 obtain ⟨h1,h2,h3,h4⟩:=h
 obtain ⟨a,b,c,d,e,f,rfl⟩:=six h1
 refine ⟨rfl,?_⟩
 have h2':qDb [a,b] > -2:=h2
 have h3':qDb [c,d] > -2:=by have:qDb [c,d] = -1∨1≤qDb [c,d]∧qDb [c,d]≤12:=h3;omega
 have h4':qDb [e,f] > -2:=by have:qDb [e,f] = -1∨1≤qDb [e,f]∧qDb [e,f]≤31:=h4;omega
 rw [show [a,b,c,d,e,f]=[a,b]++([c,d]++[e,f]) from rfl,validS_append,validS_append,qLc h2',qLc h3',qLc h4']
 rfl
theorem vCf {s:List UInt8} {y:Int} (h:(qFp s y).2=0):s.length=6∧qAt s=true:=by
 unfold qFp at h
 split at h
 ·exact absurd h (by simp)
 split at h
 ·exact absurd h (by simp)
 split at h
 ·exact absurd h (by simp)
 rename_i h1 h2 h3
 exact ⟨by omega,qNd (by simpa using h3)⟩
theorem qJw {s:List UInt8} {n:Int} (h:qCc s n=true):1≤s.length∧(s.length:Int)≤n:=by
 unfold qCc at h
 rw [Bool.and_eq_true,decide_eq_true_eq] at h
 exact h.1
structure ZOk (z:Zon):Prop where
 fmt:1≤z.fmt∧z.fmt≤3
 kind:z.kind.length≤2
 state:z.state.length≤3
 nat:z.nat.length≤3
 bir:z.bir.length=6∧qAt z.bir=true
 sex:z.sex.length=1
 exp:z.exp.length=6∧qAt z.exp=true
 num:1≤z.num.length∧(z.num.length:Int)≤qRf z.fmt∧qAt z.num=true
 opt:(z.opt.length:Int)≤vCx z∧qAt z.opt=true
 sec:z.sec.length≤11∧qAt z.sec=true
theorem validZ_ok {z:Zon} (h:validZ z=0):ZOk z:=by
 unfold validZ at h
 split at h
 ·exact absurd h (by omega)
 split at h
 ·exact absurd h (by omega)
 split at h
 ·exact absurd h (by omega)
 split at h
 ·exact absurd h (by omega)
 split at h
 ·exact absurd h (by omega)
 split at h
 ·exact absurd h (by omega)
 split at h
 ·exact absurd h (by omega)
 split at h
 ·exact absurd h (by omega)
 rename_i h1 h2 h3 h4 h5 h6 h7 h8
 simp only [not_or,Bool.not_eq_false] at h1 h3 h4 h7
 obtain ⟨f1,f2,f3,f4,f5,f6,f7,f8,f9⟩:=h1
 have hk:=qJw f3
 have hs:=qJw f4
 have hn:=qJw h3
 have hop:qAt z.opt=true:=by have:=h7.1;unfold qEm at this;rw [Bool.and_eq_true] at this;exact this.1
 have hse:qAt z.sec=true:=by have:=h7.2.1;unfold qEm at this;rw [Bool.and_eq_true] at this;exact this.1
 have hsx:z.sex.length=1:=by
  by_cases g1:z.sex=[77]
  ·rw [g1];rfl
  by_cases g2:z.sex=[70]
  ·rw [g2];rfl
  by_cases g3:z.sex=[60]
  ·rw [g3];rfl
  exact absurd ⟨g1,g2,g3⟩ h5
 have hnm:1≤z.num.length:=by cases hx:z.num with
  | nil=>exact absurd hx f8
  | cons a l=>simp
 exact ⟨by omega,by omega,by omega,by omega,qVq h4,hsx,vCf (by simpa using h6),⟨hnm,by omega,qNc f9⟩,⟨by omega,hop⟩,⟨by omega,hse⟩⟩
theorem qJz {s:List UInt8} (h:qAt s=true):(qAs s).length=s.length+1:=by unfold qAs;rw [List.length_append,qOe h]
theorem qPx {s:List UInt8} (h:qAt s=true) (hl:1≤s.length):(qAy s).1.length=10∧(qAy s).2.length=if s.length≤9 then 0 else s.length-9+2:=by
 unfold qAy
 split
 ·rename_i h1
  refine ⟨?_,rfl⟩
  rw [qJz (validS_wide 9 h),wideS_length];omega
 ·rename_i h1
  refine ⟨?_,?_⟩
  ·show (s.take 9++[60]).length=10
   rw [List.length_append,List.length_take];simp;omega
  ·show (s.drop 9++(qBx s).1++[60]).length=s.length-9+2
   rw [List.length_append,List.length_append,List.length_drop,qOe h];simp
theorem lettersP_spec (s:List UInt8) (most:Int) (hs:s.length≤1000000):Spec Tryz.prog 252 [.d (.str s),.I most] [] (fun r h'=>r=.d (.bool (qCc s most))∧h'=[]):=by
 have ht:=qXf s hs
 have hl:qCc s most=(decide ((s.length:Int)≥1)&&decide ((s.length:Int)≤most)&&(Lib.trimS s upS == [])):=by
  unfold qCc
  rw [Bool.eq_iff_iff]
  simp only [Bool.and_eq_true,decide_eq_true_eq,beq_iff_eq]
  rw [trimS_nil]
  constructor
  ·rintro ⟨⟨h1,h2⟩,h3⟩;exact ⟨⟨by omega,h2⟩,h3⟩
  ·rintro ⟨⟨h1,h2⟩,h3⟩;exact ⟨⟨by omega,h2⟩,h3⟩
 rw [hl]
 generalize Lib.trimS s upS=ts at ht
 refine qAb hT Tryz.func252 rfl rfl rfl rfl ?_;intro E hE
 refine ww ?_
 refine wwgc ht ?_
 refine ww ?_
 exact wwr
theorem freeP_spec (s:List UInt8) (hs:s.length≤1000000):Spec Tryz.prog 258 [.d (.str s)] [] (fun r h'=>r=.d (.bool (qEm s))∧h'=[]):=by
 have hv:=qKd s hs
 have h1:=qPm s [60]
 have h2:=qPl s [60] hs
 rw [qPu] at h1
 rw [qZz] at h2
 have hl:qEm s=(qAt s&&!decide (s.head?=some 60)&&!decide (s.getLast?=some 60)):=by
  unfold qEm
  cases s with
  | nil=>rfl
  | cons c l =>
   rw [Bool.eq_iff_iff]
   simp [and_assoc]
 rw [hl]
 generalize qAt s=b0 at hv
 generalize decide (s.head?=some 60)=b1 at h1
 generalize decide (s.getLast?=some 60)=b2 at h2
 refine qAb hT Tryz.func258 rfl rfl rfl rfl ?_;intro E hE
 refine ww ?_
 refine wwc hv ?_
 refine ww ?_
 refine wwgc h1 ?_
 refine ww ?_
 refine wwgc h2 ?_
 refine ww ?_
 exact wwr
theorem longestP_spec (f:Int):Spec Tryz.prog 256 [.I f] [] (fun r h'=>r=.I (qRf f)∧h'=[]):=by
 unfold qRf
 refine qAb hT Tryz.func256 rfl rfl rfl rfl ?_;intro E hE
 refine ww ?_
 refine qAa rfl (fun c1=>?_) (fun c1=>?_)
 ·rw [if_pos (by simpa using c1)]
  refine ww ?_
  exact wwr
 rw [if_neg (by simpa using c1)]
 refine ww ?_
 refine qAa rfl (fun c2=>?_) (fun c2=>?_)
 ·rw [if_pos (by simpa using c2)]
  refine ww ?_
  exact wwr
 rw [if_neg (by simpa using c2)]
 refine ww ?_
 exact wwr
def qFw (f:Int):List Int :=
 if f=1 then [0,0,2,0,2,3,2,0,30,0,5,9,0,14,1,1,15,3,1,0,6,1,6,1,1,7,1,1,8,6,1,14,1,0,15,15,0,0,0,1,18,11,1,29,1]
 else if f=2 then [0,0,2,0,2,3,0,5,31,1,0,9,1,9,1,1,10,3,1,13,6,1,19,1,1,20,1,1,21,6,1,27,1,1,28,7,0,0,0,0,0,0,1,35,1]
 else if f=3 then [0,0,2,0,2,3,0,5,39,1,0,9,1,9,1,1,10,3,1,13,6,1,19,1,1,20,1,1,21,6,1,27,1,1,28,14,1,42,1,0,0,0,1,43,1]
 else List.replicate 45 0
def vDm (f:Int):Int:=if f=1 then 3 else if f=2∨f=3 then 2 else 0
def vNd (f:Int):Int:=if f=1 then 30 else if f=2 then 36 else if f=3 then 44 else 0
def qJh (l:List Int):List AV:=l.map fun n=>.d (.int .i64 n)
theorem qNv (f:Int):Spec Tryz.prog 164 [.I f] [] (fun r h'=>r=.tup [.agg (qJh (qFw f)),.I (vDm f),.I (vNd f)]∧h'=[]):=by
 by_cases h3:f=3
 ·subst h3
  refine qAb hT Tryz.func164 rfl rfl rfl rfl ?_;intro E hE
  refine ww ?_
  refine qAa rfl (fun c1=>?_) (fun c1=>?_)
  rotate_left
  ·exact absurd c1 (by simp)
  refine ww ?_
  refine qAa rfl (fun c2=>?_) (fun c2=>?_)
  rotate_left
  ·exact absurd c2 (by simp)
  refine ww ?_
  refine qAa rfl (fun c3=>?_) (fun c3=>?_)
  ·exact absurd c3 (by simp)
  refine ww ?_
  refine qAa rfl (fun c4=>?_) (fun c4=>?_)
  rotate_left
  ·exact absurd c4 (by simp)
  refine ww ?_
  first | refine qAd (qAc (arrPtr_ok hT rfl rfl rfl rfl (by decide))) rfl ?_ | refine qBc (qAc (arrPtr_ok hT rfl rfl rfl rfl (by decide))) rfl rfl ?_
  refine ww ?_
  first | refine qAd (qAc (arrPtr_ok hT rfl rfl rfl rfl (by decide))) rfl ?_ | refine qBc (qAc (arrPtr_ok hT rfl rfl rfl rfl (by decide))) rfl rfl ?_
  refine ww ?_
  first | refine qAd (qAc (arrPtr_ok hT rfl rfl rfl rfl (by decide))) rfl ?_ | refine qBc (qAc (arrPtr_ok hT rfl rfl rfl rfl (by decide))) rfl rfl ?_
  refine ww ?_
  exact rx ⟨rfl,rfl⟩
 by_cases h2:f=2
 ·subst h2
  refine qAb hT Tryz.func164 rfl rfl rfl rfl ?_;intro E hE
  refine ww ?_
  refine qAa rfl (fun c1=>?_) (fun c1=>?_)
  ·exact absurd c1 (by simp)
  refine ww ?_
  refine qAa rfl (fun c2=>?_) (fun c2=>?_)
  rotate_left
  ·exact absurd c2 (by simp)
  refine ww ?_
  refine qAa rfl (fun c3=>?_) (fun c3=>?_)
  rotate_left
  ·exact absurd c3 (by simp)
  refine ww ?_
  refine qAa rfl (fun c4=>?_) (fun c4=>?_)
  ·exact absurd c4 (by simp)
  refine ww ?_
  exact rx ⟨rfl,rfl⟩
 by_cases h1:f=1
 ·subst h1
  refine qAb hT Tryz.func164 rfl rfl rfl rfl ?_;intro E hE
  refine ww ?_
  refine qAa rfl (fun c1=>?_) (fun c1=>?_)
  ·exact absurd c1 (by simp)
  refine ww ?_
  refine qAa rfl (fun c2=>?_) (fun c2=>?_)
  ·exact absurd c2 (by simp)
  refine ww ?_
  refine qAa rfl (fun c3=>?_) (fun c3=>?_)
  rotate_left
  ·exact absurd c3 (by simp)
  refine ww ?_
  exact rx ⟨rfl,rfl⟩
 have e1:qFw f=List.replicate 45 0:=by unfold qFw;rw [if_neg h1,if_neg h2,if_neg h3]
 have e2:vDm f=0:=by unfold vDm;rw [if_neg h1,if_neg (by omega)]
 have e3:vNd f=0:=by unfold vNd;rw [if_neg h1,if_neg h2,if_neg h3]
 rw [e1,e2,e3]
 refine qAb hT Tryz.func164 rfl rfl rfl rfl ?_;intro E hE
 refine ww ?_
 refine qAa rfl (fun c1=>?_) (fun c1=>?_)
 ·exact absurd c1 (by simp [h3])
 refine ww ?_
 refine qAa rfl (fun c2=>?_) (fun c2=>?_)
 ·exact absurd c2 (by simp [h2])
 refine ww ?_
 refine qAa rfl (fun c3=>?_) (fun c3=>?_)
 ·exact absurd c3 (by simp [h1])
 refine ww ?_
 exact rx ⟨rfl,rfl⟩
def qRg (i:Nat):Int:=if i=0 then 99 else if i=1 then 12 else 31
theorem mostB_at {i:Nat} (h:i < 3):([AV.d (.int .i64 99),.I 12,.I 31]:List AV)[((i:Int)).toNat]?=some (.I (qRg i)):=by
 match i,h with
 | 0,_=>rfl
 | 1,_=>rfl
 | 2,_=>rfl
def qHu (s:List UInt8) (i:Nat):Int:=qDb [s.getD (2*i) 0,s.getD (2*i+1) 0]
def okB (s:List UInt8) (i:Nat):Bool:=decide (qHu s i = -1∨(qHu s i > -2∧qHu s i≤qRg i∧(i=0∨qHu s i≠0)))
def okR (s:List UInt8) (i:Nat):Bool:=match i with
 | 0=>okB s 0&&(okB s 1&&okB s 2)
 | 1=>okB s 1&&okB s 2
 | 2=>okB s 2
 | _=>true
theorem okR_step {s:List UInt8} {i:Nat} (h:i < 3):okR s i=(okB s i&&okR s (i+1)):=by
 match i,h with
 | 0,_=>rfl
 | 1,_=>rfl
 | 2,_=>simp [okR]
theorem pairF_two (a b:UInt8):qDb [a,b]=if a=60∧b=60 then -1 else if qFo a=true∧qFo b=true then 10*(bI a-48)+(bI b-48) else -2:=by
 unfold qDb qHa
 simp
theorem pairF_range (a b:UInt8):qDb [a,b] = -1∨qDb [a,b] = -2∨(0≤qDb [a,b]∧qDb [a,b]≤99):=by
 rw [pairF_two]
 split
 ·exact .inl rfl
 ·split
  ·rename_i h
   have h1:=(isDig_iff a).1 h.1
   have h2:=(isDig_iff b).1 h.2
   right;right;omega
  ·exact .inr (.inl rfl)
theorem vEn {s:List UInt8} (h:s.length=6):qIp s=okR s 0:=by
 obtain ⟨a,b,c,d,e,f,rfl⟩:=six h
 have r0:=pairF_range a b
 have r1:=pairF_range c d
 have r2:=pairF_range e f
 have hb:qIp [a,b,c,d,e,f]=(decide (6=6)&&(decide (qDb [a,b] > -2)&&(decide (qDb [c,d] = -1∨1≤qDb [c,d]∧qDb [c,d]≤12)&&decide (qDb [e,f] = -1∨1≤qDb [e,f]∧qDb [e,f]≤31)))):=rfl
 have e0:qHu [a,b,c,d,e,f] 0=qDb [a,b]:=rfl
 have e1:qHu [a,b,c,d,e,f] 1=qDb [c,d]:=rfl
 have e2:qHu [a,b,c,d,e,f] 2=qDb [e,f]:=rfl
 have m0:qRg 0=99:=rfl
 have m1:qRg 1=12:=rfl
 have m2:qRg 2=31:=rfl
 have hR:okR [a,b,c,d,e,f] 0=(okB [a,b,c,d,e,f] 0&&(okB [a,b,c,d,e,f] 1&&okB [a,b,c,d,e,f] 2)):=rfl
 rw [hb,hR]
 unfold okB
 rw [e0,e1,e2,m0,m1,m2]
 generalize qDb [a,b]=x at *
 generalize qDb [c,d]=y at *
 generalize qDb [e,f]=z at *
 rw [Bool.eq_iff_iff]
 simp only [Bool.and_eq_true,decide_eq_true_eq]
 simp only [true_and,true_or,and_true]
 omega
theorem vJg {s:List UInt8} {i:Nat} (hs:s.length=6) (h:i < 3):qOf s (2*(i:Int)) (2*(i:Int)+2)=[s.getD (2*i) 0,s.getD (2*i+1) 0]:=by
 obtain ⟨a,b,c,d,e,f,rfl⟩:=six hs
 match i,h with
 | 0,_=>rfl
 | 1,_=>rfl
 | 2,_=>rfl
theorem bornP_spec (s:List UInt8) (hs:s.length≤1000000):Spec Tryz.prog 257 [.d (.str s)] [] (fun r h'=>r=.d (.bool (qIp s))∧h'=[]):=by
 by_cases h6:s.length=6
 case neg =>
  have hb:qIp s=false:=by unfold qIp;rw [decide_eq_false h6,Bool.false_and]
  rw [hb]
  refine qAb hT Tryz.func257 rfl rfl rfl rfl ?_;intro E hE
  refine ww ?_
  refine qZq ?_
  refine ww ?_
  refine qAa rfl (fun c1=>?_) (fun c1=>?_)
  ·refine ww ?_
   exact wwr
  ·exact absurd c1 (by simp;omega)
 rw [vEn h6]
 generalize hfin:okR s 0=fin
 refine qAb hT Tryz.func257 rfl rfl rfl rfl ?_;intro E hE
 refine ww ?_
 refine qZq ?_
 refine ww ?_
 refine qAa rfl (fun c1=>?_) (fun c1=>?_)
 ·exact absurd c1 (by rw [h6];simp)
 refine ww ?_
 refine vIk ?_
 refine ww ?_
 refine qAq (ι:=Nat) (fun i=>[(0,.d (.str s)),(11,.agg [.I 99,.I 12,.I 31]),(12,.I (i:Int))]) (fun _=>[]) (fun i=>i≤3∧okR s i=fin) (fun i=>3-i) 0 ⟨by omega,hfin⟩ yf (HLe.refl _) ?_
 rintro i ⟨hi,hg⟩
 have hwr:IntKind.i64.wrap ((i:Int)+1)=((i+1:Nat):Int):=by rw [qAe (by omega)];simp
 refine ww ?_
 refine qAa rfl (fun c2=>?_) (fun c2=>?_)
 rotate_left
 ·have c2':i=3:=by simp at c2;omega
  subst c2'
  have:fin=true:=hg.symm
  subst this
  refine ww ?_
  exact wwr
 have c2':i < 3:=by simp at c2;omega
 have hst:=okR_step (s:=s) c2'
 rw [hg] at hst
 have hcut:=vJg h6 c2'
 have hp2:=pairF_two (s.getD (2*i) 0) (s.getD (2*i+1) 0)
 have hw2:IntKind.i64.wrap (2*(i:Int))=2*(i:Int):=qAe (by omega)
 have hw3:IntKind.i64.wrap (IntKind.i64.wrap (2*(i:Int))+2)=2*(i:Int)+2:=by rw [hw2,qAe (by omega)]
 have hmb:qRg i≤99:=by unfold qRg;split <;> (try split) <;> omega
 have hmi:=mostB_at c2'
 have hokb:okB s i=decide (qHu s i = -1∨(qHu s i > -2∧qHu s i≤qRg i∧(i=0∨qHu s i≠0))):=rfl
 unfold qHu at hokb
 generalize qRg i=mb at hmb hmi hokb
 refine ww ?_
 refine qAd (qAc (arrIdx_ok hT rfl rfl rfl rfl ⟨by omega,by omega⟩ hmi)) rfl ?_
 refine ww ?_
 refine qAq (ι:=Nat) (fun k=>[(0,.d (.str s)),(11,.agg [.I 99,.I 12,.I 31]),(12,.I (i:Int)),(3,.I (i:Int)),(4,.I mb),
   (5,.I (if k=0 then 0 else if k=1 then bI (s.getD (2*i) 0)-48 else 10*(bI (s.getD (2*i) 0)-48)+(bI (s.getD (2*i+1) 0)-48))),(16,.I (k:Int))]) (fun _=>[])
  (fun k=>k≤2∧(1≤k→qFo (s.getD (2*i) 0)=true)∧(2≤k→qFo (s.getD (2*i+1) 0)=true)) (fun k=>2-k) 0 ⟨by omega,fun h=>by omega,fun h=>by omega⟩ yf (HLe.refl _) ?_
 rintro k ⟨hk,hd0,hd1⟩
 have hwk:IntKind.i64.wrap ((k:Int)+1)=((k+1:Nat):Int):=by rw [qAe (by omega)];simp
 refine ww ?_
 refine qAa rfl (fun c3=>?_) (fun c3=>?_)
 ·have c3':k < 2:=by simp at c3;omega
  have hwi:IntKind.i64.wrap (IntKind.i64.wrap (2*(i:Int))+(k:Int))=((2*i+k:Nat):Int):=by rw [hw2,qAe (by omega)];omega
  have hsa:qDs s (IntKind.i64.wrap (IntKind.i64.wrap (2*(i:Int))+(k:Int)))=bI (s.getD (2*i+k) 0):=by
   rw [hwi,strAt_bI (by omega),List.getD_eq_getElem?_getD,List.getElem?_eq_getElem (by omega)];rfl
  have hbr:=bI_range (s.getD (2*i+k) 0)
  have hdg:=isDig_iff (s.getD (2*i+k) 0)
  refine ww ?_
  rw [hsa]
  refine qAa rfl (fun c4=>?_) (fun c4=>?_)
  ·have c4':qFo (s.getD (2*i+k) 0)=true:=hdg.2 (by simp only [Bool.and_eq_true,decide_eq_true_eq] at c4;omega)
   have hdi:=hdg.1 c4'
   have hq:k=0∨k=1:=by omega
   rcases hq with rfl | rfl
   ·have hn:IntKind.i64.wrap (IntKind.i64.wrap (10*0)+IntKind.i64.wrap (IntKind.u8.wrap (bI (s.getD (2*i+0) 0)-48)))=bI (s.getD (2*i) 0)-48:=by
     rw [wrapu8 (by omega),qAe (n:=10*0) (by omega),qAe (n:=bI (s.getD (2*i+0) 0)-48) (by omega),qAe (by omega)];simp
    refine ww ?_
    exact ⟨1,⟨by omega,fun _=>c4',fun h=>by omega⟩,by omega,⟨.refl _,.refl _,.refl _,.refl _,.refl _,.int hn,.int hwk,trivial⟩,HLe.refl _⟩
   ·have hd0':=(isDig_iff _).1 (hd0 (by omega))
    have hn:IntKind.i64.wrap (IntKind.i64.wrap (10*(bI (s.getD (2*i) 0)-48))+IntKind.i64.wrap (IntKind.u8.wrap (bI (s.getD (2*i+1) 0)-48)))=10*(bI (s.getD (2*i) 0)-48)+(bI (s.getD (2*i+1) 0)-48):=by
     rw [wrapu8 (by omega),qAe (n:=10*(bI (s.getD (2*i) 0)-48)) (by omega),qAe (n:=bI (s.getD (2*i+1) 0)-48) (by omega),qAe (by omega)]
    refine ww ?_
    exact ⟨2,⟨by omega,fun _=>hd0 (by omega),fun _=>c4'⟩,by omega,⟨.refl _,.refl _,.refl _,.refl _,.refl _,.int hn,.int hwk,trivial⟩,HLe.refl _⟩
  ·have c4':qFo (s.getD (2*i+k) 0)=false:=by
    cases hx:qFo (s.getD (2*i+k) 0) with
    | false=>rfl
    | true=>have:=hdg.1 hx;simp only [Bool.and_eq_false_iff,decide_eq_false_iff_not] at c4;omega
   have hnd:¬ (qFo (s.getD (2*i) 0)=true∧qFo (s.getD (2*i+1) 0)=true):=fun h=>by
    have hq:k=0∨k=1:=by omega
    rcases hq with rfl | rfl
    ·rw [Nat.add_zero] at c4';rw [c4'] at h;exact absurd h.1 (by simp)
    ·rw [c4'] at h;exact absurd h.2 (by simp)
   rw [if_neg hnd] at hp2
   refine ww ?_
   rw [hw3,hw2,hcut]
   refine qAa rfl (fun c5=>?_) (fun c5=>?_)
   ·have c5':s.getD (2*i) 0=60∧s.getD (2*i+1) 0=60:=by
     have h:([s.getD (2*i) 0,s.getD (2*i+1) 0]:List UInt8)=[60,60]:=eq_of_beq c5
     simpa using h
    rw [if_pos c5'] at hp2
    have hok:okB s i=true:=by rw [hokb,hp2];simp
    rw [hok,Bool.true_and] at hst
    refine ww ?_
    exact ⟨i+1,⟨c2',hst.symm⟩,by omega,⟨.refl _,.refl _,.int hwr,trivial⟩,HLe.refl _⟩
   ·have c5':¬ (s.getD (2*i) 0=60∧s.getD (2*i+1) 0=60):=fun h=>by
     rw [h.1,h.2] at c5;exact absurd c5 (by decide)
    rw [if_neg c5'] at hp2
    have hok:okB s i=false:=by rw [hokb,hp2];simp
    rw [hok,Bool.false_and] at hst
    subst hst
    refine ww ?_
    exact wwr
 ·have c3':k=2:=by simp at c3;omega
  subst c3'
  have h0:=hd0 (by omega)
  have h1:=hd1 (by omega)
  have h0':=(isDig_iff _).1 h0
  have h1':=(isDig_iff _).1 h1
  have hne:¬ (s.getD (2*i) 0=60∧s.getD (2*i+1) 0=60):=fun h=>by
   rw [h.1] at h0;exact absurd h0 (by decide)
  rw [if_neg hne,if_pos ⟨h0,h1⟩] at hp2
  rw [if_neg (by omega),if_neg (by omega)]
  generalize hpe:10*(bI (s.getD (2*i) 0)-48)+(bI (s.getD (2*i+1) 0)-48)=p at hp2
  have hpr:0≤p∧p≤99:=by omega
  rw [hp2] at hokb
  refine ww ?_
  refine qAa rfl (fun c4=>?_) (fun c4=>?_)
  ·have hok:okB s i=false:=by
    rw [hokb]
    apply decide_eq_false
    simp at c4
    omega
   rw [hok,Bool.false_and] at hst
   subst hst
   refine ww ?_
   exact wwr
  ·have hok:okB s i=true:=by
    rw [hokb]
    apply decide_eq_true
    simp at c4
    omega
   rw [hok,Bool.true_and] at hst
   refine ww ?_
   exact ⟨i+1,⟨c2',hst.symm⟩,by omega,⟨.refl _,.refl _,.int hwr,trivial⟩,HLe.refl _⟩
theorem qYn:∀ (s:List UInt8),qNj s=(qAt s&&!s.any (· == 60))
 | []=>rfl
 | c::l=>by
  have ih:=qYn l
  unfold qNj at ih ⊢
  rw [List.all_cons,ih,qAt,List.any_cons]
  by_cases h1:c=60
  ·subst h1;simp
  ·have:(c == 60)=false:=by simpa using h1
   rw [this]
   by_cases h2:0≤qQy (bI c) <;> simp [h1,h2]
theorem qHj (z:Zon) (hz:vJe z) (L:List AV) (hL:L.length=45) (hLl:qCo 0 L=true) (ln lw w11 w13:Int) (h35:L[35]?=some (.I w11)) (h41:L[41]?=some (.I w13))
  (hly:Spec Tryz.prog 164 [.I z.fmt] [] (fun r h'=>r=.tup [.agg L,.I ln,.I lw]∧h'=[])) (v:Int)
  (hv:v=if ln=0∨qCc z.kind 2=false∨qCc z.state 3=false∨qFm true z.sur=false∨z.sur=[]∨qFm true z.giv=false∨z.num=[]∨qAt z.num=false∨z.num.any (· == 60)=true then 14
   else if (z.num.length:Int) > qRf z.fmt then 2 else if qCc z.nat 3=false then 14 else if qIp z.bir=false then 8 else if z.sex≠[77]∧z.sex≠[70]∧z.sex≠[60] then 14 else if (qFp z.exp 2000).2≠0 then 8
   else if qEm z.opt=false∨qEm z.sec=false∨(z.fmt≠1∧z.sec≠[]) then 14 else if (z.opt.length:Int)+(if (z.num.length:Int) > 9 then (z.num.length:Int)-9+2 else 0) > w11∨(z.sec.length:Int) > w13 then 2 else 0) :
  Spec Tryz.prog 163 [zAV z] [] (fun r h'=>r=.I v∧h'=[]):=by
 obtain ⟨f,ki,st,su,gi,nu,na,bi,se,ex,op,sc⟩:=z
 obtain ⟨z1,z2,z3,z4,z5,z6,z7,z8,z9,z10,z11⟩:=hz
 simp only at z1 z2 z3 z4 z5 z6 z7 z8 z9 z10 z11 hly hv
 have g1:=lettersP_spec ki 2 (by omega)
 have g2:=lettersP_spec st 3 (by omega)
 have g3:=qJf su (by omega)
 have g4:=qJf gi (by omega)
 have g5:=qKd nu (by omega)
 have g6:=qOs nu
 rw [qYs] at g6
 have g7:=longestP_spec f
 have g8:=lettersP_spec na 3 (by omega)
 have g9:=bornP_spec bi (by omega)
 have g10:=dayParseP_spec ex 2000 (by omega)
 have g11:=freeP_spec op (by omega)
 have g12:=freeP_spec sc (by omega)
 generalize qCc ki 2=b1 at g1 hv
 generalize qCc st 3=b2 at g2 hv
 generalize qFm true su=b3 at g3 hv
 generalize qFm true gi=b4 at g4 hv
 generalize qAt nu=b5 at g5 hv
 generalize nu.any (· == 60)=b6 at g6 hv
 generalize qRf f=mo at g7 hv
 generalize qCc na 3=b8 at g8 hv
 generalize qIp bi=b9 at g9 hv
 generalize qFp ex 2000=dp at g10 hv
 generalize qEm op=b11 at g11 hv
 generalize qEm sc=b12 at g12 hv
 unfold zAV qLu
 simp only
 refine qAb hT Tryz.func163 rfl rfl rfl rfl ?_;intro E hE
 refine ww ?_
 refine qAd (qBl rfl rfl hly rfl rfl (by simp [low,qCo,hLl])) rfl ?_
 refine ww ?_
 refine qAd (qAc (extractA_ok rfl rfl)) rfl ?_
 refine ww ?_
 refine qDp (storeAgg_ok hT rfl rfl rfl rfl rfl hL (by exact Nat.le_refl 45) (setRun_full (by rw [hL];rfl))) rfl ?_
 refine ww ?_
 refine wwc g10 ?_
 refine ww ?_
 have r14:∀ {a b:Int} {p:Prop} [Decidable p],p→(if p then a else b)=a:=fun h=>if_pos h
 refine qAa rfl (fun c1=>?_) (fun c1=>?_)
 ·have e:ln=0:=by simpa using c1
  have hv':v=14:=by rw [hv,if_pos (.inl e)]
  rw [hv']
  refine ww ?_
  refine qAa rfl (fun d=>?_) (fun d=>?_)
  ·refine ww ?_
   exact wwr
  ·exact absurd (c1.symm.trans d) (by simp)
 have e1:ln≠0:=by simpa using c1
 refine ww ?_
 refine wwc g1 ?_
 refine ww ?_
 refine qAa rfl (fun c2=>?_) (fun c2=>?_)
 ·have e:b1=false:=by simpa using c2
  have hv':v=14:=by rw [hv,if_pos (by simp [e])]
  rw [hv']
  refine ww ?_
  refine qAa rfl (fun d=>?_) (fun d=>?_)
  ·refine ww ?_
   exact wwr
  ·exact absurd (c2.symm.trans d) (by simp)
 have e2:b1=true:=by simpa using c2
 refine ww ?_
 refine wwc g2 ?_
 refine ww ?_
 refine qAa rfl (fun c3=>?_) (fun c3=>?_)
 ·have e:b2=false:=by simpa using c3
  have hv':v=14:=by rw [hv,if_pos (by simp [e])]
  rw [hv']
  refine ww ?_
  refine qAa rfl (fun d=>?_) (fun d=>?_)
  ·refine ww ?_
   exact wwr
  ·exact absurd (c3.symm.trans d) (by simp)
 have e3:b2=true:=by simpa using c3
 refine ww ?_
 refine wwc g3 ?_
 refine ww ?_
 refine qAa rfl (fun c4=>?_) (fun c4=>?_)
 ·have e:b3=false∨su=[]:=by simpa using c4
  have hv':v=14:=by rw [hv,if_pos (by rcases e with e | e <;> simp [e])]
  rw [hv']
  refine ww ?_
  refine qAa rfl (fun d=>?_) (fun d=>?_)
  ·refine ww ?_
   exact wwr
  ·exact absurd (c4.symm.trans d) (by simp)
 have e4:b3=true∧su≠[]:=by simpa using c4
 refine ww ?_
 refine wwc g4 ?_
 refine ww ?_
 refine qAa rfl (fun c5=>?_) (fun c5=>?_)
 ·have e:b4=false:=by simpa using c5
  have hv':v=14:=by rw [hv,if_pos (by simp [e])]
  rw [hv']
  refine ww ?_
  exact wwr
 have e5:b4=true:=by simpa using c5
 refine ww ?_
 refine qAa rfl (fun c6=>?_) (fun c6=>?_)
 ·have e:nu=[]:=by simpa using c6
  have hv':v=14:=by rw [hv,if_pos (by simp [e])]
  rw [hv']
  refine ww ?_
  refine qAa rfl (fun d=>?_) (fun d=>?_)
  ·refine ww ?_
   exact wwr
  ·exact absurd (c6.symm.trans d) (by simp)
 have e6:nu≠[]:=by simpa using c6
 refine ww ?_
 refine wwc g5 ?_
 refine ww ?_
 refine qAa rfl (fun c7=>?_) (fun c7=>?_)
 ·have e:b5=false:=by simpa using c7
  have hv':v=14:=by rw [hv,if_pos (by simp [e])]
  rw [hv']
  refine ww ?_
  refine qAa rfl (fun d=>?_) (fun d=>?_)
  ·refine ww ?_
   exact wwr
  ·exact absurd (c7.symm.trans d) (by simp)
 have e7:b5=true:=by simpa using c7
 refine ww ?_
 refine wwc g6 ?_
 refine ww ?_
 refine qAa rfl (fun c8=>?_) (fun c8=>?_)
 ·have hv':v=14:=by rw [hv,if_pos (by simp [c8])]
  rw [hv']
  refine ww ?_
  exact wwr
 rw [if_neg (by simp [e1,e2,e3,e4,e5,e6,e7,c8])] at hv
 refine ww ?_
 refine wwc g7 ?_
 refine ww ?_
 refine qAa rfl (fun c9=>?_) (fun c9=>?_)
 ·have e:(nu.length:Int) > mo:=by simpa using c9
  have hv':v=2:=by rw [hv,if_pos e]
  rw [hv']
  refine ww ?_
  exact wwr
 rw [if_neg (by simpa using c9)] at hv
 refine ww ?_
 refine wwc g8 ?_
 refine ww ?_
 refine qAa rfl (fun c10=>?_) (fun c10=>?_)
 ·have e:b8=false:=by simpa using c10
  have hv':v=14:=by rw [hv,if_pos e]
  rw [hv']
  refine ww ?_
  exact wwr
 rw [if_neg (by simpa using c10)] at hv
 refine ww ?_
 refine wwc g9 ?_
 refine ww ?_
 refine qAa rfl (fun c11=>?_) (fun c11=>?_)
 ·have e:b9=false:=by simpa using c11
  have hv':v=8:=by rw [hv,if_pos e]
  rw [hv']
  refine ww ?_
  exact wwr
 rw [if_neg (by simpa using c11)] at hv
 refine ww ?_
 refine qAa rfl (fun c12=>?_) (fun c12=>?_)
 ·have e:se≠[77]∧se≠[70]∧se≠[60]:=by simpa [and_assoc] using c12
  have hv':v=14:=by rw [hv,if_pos e]
  rw [hv']
  refine ww ?_
  exact wwr
 rw [if_neg (by
  intro h
  have:(!(se == [77])&&!(se == [70])&&!(se == [60]))=true:=by simp [h]
  exact absurd (this.symm.trans c12) (by simp))] at hv
 refine ww ?_
 refine qAa rfl (fun c13=>?_) (fun c13=>?_)
 ·have e:dp.2≠0:=by simpa using c13
  have hv':v=8:=by rw [hv,if_pos e]
  rw [hv']
  refine ww ?_
  exact wwr
 rw [if_neg (by simpa using c13)] at hv
 refine ww ?_
 refine wwc g11 ?_
 refine ww ?_
 refine qAa rfl (fun c14=>?_) (fun c14=>?_)
 ·have e:b11=false:=by simpa using c14
  have hv':v=14:=by rw [hv,if_pos (.inl e)]
  rw [hv']
  refine ww ?_
  refine qAa rfl (fun d=>?_) (fun d=>?_)
  ·refine ww ?_
   exact wwr
  ·exact absurd (c14.symm.trans d) (by simp)
 have e14:b11=true:=by simpa using c14
 refine ww ?_
 refine wwc g12 ?_
 refine ww ?_
 refine qAa rfl (fun c15=>?_) (fun c15=>?_)
 ·have e:b12=false:=by simpa using c15
  have hv':v=14:=by rw [hv,if_pos (.inr (.inl e))]
  rw [hv']
  refine ww ?_
  refine qAa rfl (fun d=>?_) (fun d=>?_)
  ·refine ww ?_
   exact wwr
  ·exact absurd (c15.symm.trans d) (by simp)
 have e15:b12=true:=by simpa using c15
 refine ww ?_
 refine qAa rfl (fun c16=>?_) (fun c16=>?_)
 ·have e:f≠1∧sc≠[]:=by simpa using c16
  have hv':v=14:=by rw [hv,if_pos (.inr (.inr e))]
  rw [hv']
  refine ww ?_
  exact wwr
 have e16:¬ (f≠1∧sc≠[]):=by
  intro h
  simp [h] at c16
 rw [if_neg (by simp [e14,e15,e16])] at hv
 refine ww ?_
 refine qAa rfl (fun c17=>?_) (fun c17=>?_)
 ·have e17:(nu.length:Int) > 9:=by simpa using c17
  rw [if_pos e17] at hv
  have hw:IntKind.i64.wrap ((op.length:Int)+IntKind.i64.wrap (IntKind.i64.wrap ((nu.length:Int)-9)+2))=(op.length:Int)+((nu.length:Int)-9+2):=by
   rw [qAe (n:=(nu.length:Int)-9) (by omega),qAe (n:=(nu.length:Int)-9+2) (by omega),qAe (by omega)]
  refine ww ?_
  refine qAd (qAc (arrPtr_ok hT rfl rfl rfl rfl (by decide))) rfl ?_
  refine ww ?_
  refine qAd (qBr hT rfl rfl rfl rfl rfl h35) rfl ?_
  refine ww ?_
  refine qCh rfl rfl rfl (fun hg=>⟨(sg (C:=True) hg).1,qAc (arrPtr_ok hT rfl rfl rfl rfl (by decide))⟩) ?_
  refine ww ?_
  refine qCh rfl rfl rfl (fun hg=>⟨(sg (C:=True) hg).1,qBr hT rfl rfl rfl rfl rfl h41⟩) ?_
  refine ww ?_
  refine qAa rfl (fun c18=>?_) (fun c18=>?_)
  ·have e:(op.length:Int)+((nu.length:Int)-9+2) > w11∨(sc.length:Int) > w13:=by
    rw [hw] at c18
    simpa using c18
   have hv':v=2:=by rw [hv,if_pos e]
   rw [hv']
   refine ww ?_
   exact wwr
  ·have e:¬ ((op.length:Int)+((nu.length:Int)-9+2) > w11∨(sc.length:Int) > w13):=by
    rw [hw] at c18
    simpa using c18
   have hv':v=0:=by rw [hv,if_neg e]
   rw [hv']
   refine ww ?_
   exact wwr
 ·have e17:¬ (nu.length:Int) > 9:=by simpa using c17
  rw [if_neg e17] at hv
  refine ww ?_
  refine qAd (qAc (arrPtr_ok hT rfl rfl rfl rfl (by decide))) rfl ?_
  refine ww ?_
  refine qAd (qBr hT rfl rfl rfl rfl rfl h35) rfl ?_
  refine ww ?_
  refine qCh rfl rfl rfl (fun hg=>⟨(sg (C:=True) hg).1,qAc (arrPtr_ok hT rfl rfl rfl rfl (by decide))⟩) ?_
  refine ww ?_
  refine qCh rfl rfl rfl (fun hg=>⟨(sg (C:=True) hg).1,qBr hT rfl rfl rfl rfl rfl h41⟩) ?_
  refine ww ?_
  refine qAa rfl (fun c18=>?_) (fun c18=>?_)
  ·have e:(op.length:Int)+0 > w11∨(sc.length:Int) > w13:=by
    rw [Int.add_zero]
    simpa using c18
   have hv':v=2:=by rw [hv,if_pos e]
   rw [hv']
   refine ww ?_
   exact wwr
  ·have e:¬ ((op.length:Int)+0 > w11∨(sc.length:Int) > w13):=by
    rw [Int.add_zero]
    simpa using c18
   have hv':v=0:=by rw [hv,if_neg e]
   rw [hv']
   refine ww ?_
   exact wwr
theorem vJf {f o:Int} {nn:Nat}:o+(if (nn:Int) > 9 then (nn:Int)-9+2 else 0) > (if f=1 then 15 else if f=2 then 7 else 14)↔o > (if f=1 then 15 else if f=2 then 7 else 14)-(if nn > 9 then (nn:Int)-9+2 else 0):=by
 split <;> split <;> split <;> (try split) <;> omega
theorem qOi (z:Zon) (hz:vJe z):Spec Tryz.prog 163 [zAV z] [] (fun r h'=>r=.I (validZ z)∧h'=[]):=by
 have hlay:=qNv z.fmt
 have hp:qNj z.num=false↔(qAt z.num=false∨z.num.any (· == 60)=true):=by
  rw [qYn]
  cases qAt z.num <;> cases z.num.any (· == 60) <;> simp
 have key:∀ w11 w13:Int,(vDm z.fmt=0↔(z.fmt < 1∨z.fmt > 3))→(¬ (z.fmt < 1∨z.fmt > 3)→w11=(if z.fmt=1 then 15 else if z.fmt=2 then 7 else 14)∧(z.fmt=1→w13=11)∧(z.fmt≠1→w13=0))→validZ z=_:=fun w11 w13 hn hw=>by
  exact (show validZ z=if vDm z.fmt=0∨qCc z.kind 2=false∨qCc z.state 3=false∨qFm true z.sur=false∨z.sur=[]∨qFm true z.giv=false∨z.num=[]∨qAt z.num=false∨z.num.any (· == 60)=true then 14
   else if (z.num.length:Int) > qRf z.fmt then 2 else if qCc z.nat 3=false then 14 else if qIp z.bir=false then 8 else if z.sex≠[77]∧z.sex≠[70]∧z.sex≠[60] then 14 else if (qFp z.exp 2000).2≠0 then 8
   else if qEm z.opt=false∨qEm z.sec=false∨(z.fmt≠1∧z.sec≠[]) then 14 else if (z.opt.length:Int)+(if (z.num.length:Int) > 9 then (z.num.length:Int)-9+2 else 0) > w11∨(z.sec.length:Int) > w13 then 2 else 0 by
   unfold validZ
   by_cases q0:z.fmt < 1∨z.fmt > 3
   ·rw [if_pos (by rcases q0 with q | q;exact .inl q;exact .inr (.inl q)),if_pos (.inl (hn.2 q0))]
   obtain ⟨h1,h2,h3⟩:=hw q0
   have q0':¬ vDm z.fmt=0:=fun h=>q0 (hn.1 h)
   have hA:(z.fmt < 1∨z.fmt > 3∨qCc z.kind 2=false∨qCc z.state 3=false∨qFm true z.sur=false∨z.sur=[]∨qFm true z.giv=false∨z.num=[]∨qNj z.num=false) ↔
     (vDm z.fmt=0∨qCc z.kind 2=false∨qCc z.state 3=false∨qFm true z.sur=false∨z.sur=[]∨qFm true z.giv=false∨z.num=[]∨qAt z.num=false∨z.num.any (· == 60)=true):=by
    rw [hp]
    constructor
    ·rintro (h | h | h)
     ·exact absurd (.inl h) q0
     ·exact absurd (.inr h) q0
     ·exact .inr h
    ·rintro (h | h)
     ·exact absurd h q0'
     ·exact .inr (.inr h)
   have hB:(qEm z.opt=false∨qEm z.sec=false∨(z.sec≠[]∧z.fmt≠1))↔(qEm z.opt=false∨qEm z.sec=false∨(z.fmt≠1∧z.sec≠[])):=by rw [and_comm (a:=z.sec≠[])]
   simp only [hA,hB]
   by_cases q1:qEm z.opt=false∨qEm z.sec=false∨(z.fmt≠1∧z.sec≠[])
   ·simp only [if_pos q1]
   have hC:((z.opt.length:Int) > vCx z∨(z.sec.length:Int) > 11)↔((z.opt.length:Int)+(if (z.num.length:Int) > 9 then (z.num.length:Int)-9+2 else 0) > w11∨(z.sec.length:Int) > w13):=by
    rw [h1,vJf]
    unfold vCx
    by_cases q2:z.fmt=1
    ·rw [h2 q2]
    ·have:z.sec=[]:=Classical.byContradiction fun h=>q1 (.inr (.inr ⟨q2,h⟩))
     rw [h3 q2,this]
     simp
   simp only [hC])
 by_cases f1:z.fmt=1
 ·have hk:=key 15 11 (by rw [f1];decide) (fun _=>⟨by rw [f1];rfl,fun _=>rfl,fun h=>absurd f1 h⟩)
  exact qHj z hz _ (by rw [f1];rfl) (by rw [f1];rfl) _ _ 15 11 (by rw [f1];rfl) (by rw [f1];rfl) hlay _ hk
 by_cases f2:z.fmt=2
 ·have hk:=key 7 0 (by rw [f2];decide) (fun _=>⟨by rw [f2];rfl,fun h=>absurd h f1,fun _=>rfl⟩)
  exact qHj z hz _ (by rw [f2];rfl) (by rw [f2];rfl) _ _ 7 0 (by rw [f2];rfl) (by rw [f2];rfl) hlay _ hk
 by_cases f3:z.fmt=3
 ·have hk:=key 14 0 (by rw [f3];decide) (fun _=>⟨by rw [f3];rfl,fun h=>absurd h f1,fun _=>rfl⟩)
  exact qHj z hz _ (by rw [f3];rfl) (by rw [f3];rfl) _ _ 14 0 (by rw [f3];rfl) (by rw [f3];rfl) hlay _ hk
 have hl:qFw z.fmt=List.replicate 45 0:=by unfold qFw;rw [if_neg f1,if_neg f2,if_neg f3]
 have hk:=key 0 0 (by unfold vDm;rw [if_neg f1,if_neg (by omega)];simp;omega) (fun h=>absurd (by omega:z.fmt < 1∨z.fmt > 3) h)
 exact qHj z hz _ (by rw [hl];rfl) (by rw [hl];rfl) _ _ 0 0 (by rw [hl];rfl) (by rw [hl];rfl) hlay _ hk
theorem wgtC_off (i:Nat):([AV.d (.int .i64 7),.I 3,.I 1]:List AV)[0+(Int.tmod (i:Int) 3).toNat*1]?=some (.I (qVl i)):=by
 rw [Nat.zero_add,Nat.mul_one];exact wgtC_at i
theorem qXu (s:List UInt8) (hs:s.length≤1000000):Spec Tryz.prog 266 [.d (.str s)] [] (fun r h'=>r=.tup [.d (.str (qBx s).1),.d (.int .i64 (qBx s).2)]∧h'=[]):=by
 have hv:=qKd s hs
 unfold qBx
 by_cases hvs:qAt s=true
 case neg =>
  rw [if_neg hvs]
  have hvf:qAt s=false:=by simpa using hvs
  rw [hvf] at hv
  refine qAb hT Tryz.func266 rfl rfl rfl rfl ?_;intro E hE
  refine ww ?_
  refine wwc hv ?_
  refine ww ?_
  refine qAa rfl (fun c1=>?_) (fun c1=>?_)
  ·refine ww ?_
   exact wwr
  ·exact absurd c1 (by simp)
 rw [if_pos hvs]
 rw [hvs] at hv
 refine qAb hT Tryz.func266 rfl rfl rfl rfl ?_;intro E hE
 refine ww ?_
 refine wwc hv ?_
 refine ww ?_
 refine qAa rfl (fun c1=>?_) (fun c1=>?_)
 ·exact absurd c1 (by simp)
 refine ww ?_
 refine qAq (ι:=Nat) (fun i=>[(0,.d (.str s)),(4,.ptr 0 0),(5,.I (qDl 0 (s.take i))),(12,.I (s.length:Int)),(13,.I (i:Int))]) (fun _=>[.row [.I 7,.I 3,.I 1]]) (fun i=>i≤s.length) (fun i=>s.length-i) 0 (by omega) yf (HLe.refl _) ?_
 intro i hi
 have hwr:IntKind.i64.wrap ((i:Int)+1)=((i+1:Nat):Int):=by rw [qAe (by omega)];simp
 have hdr:=digSum_range 0 (s.take i) (validS_take s i hvs)
 rw [List.length_take] at hdr
 refine ww ?_
 refine qAa rfl (fun h2=>?_) (fun h2=>?_)
 ·have h2':i < s.length:=by simpa using h2
  have hsa:=strAt_bI h2'
  have htk:s.take (i+1)=s.take i++[s[i]]:=List.take_succ_eq_append_getElem h2'
  have hsn:=digSum_snoc 0 (s.take i) s[i]
  rw [← htk,List.length_take,Nat.min_eq_left (by omega),Nat.zero_add] at hsn
  have hr:=bI_range s[i]
  have hval:=validS_at hvs (List.getElem_mem h2')
  generalize s[i]=c at hsa hsn hr hval
  have hval2:=valC_range (bI c)
  have hva:=qOk (qDs s (i:Int)) (by rw [hsa];exact hr)
  have hwg:=wgtC_range i
  have hix:=wgtC_off i
  have htm:0≤Int.tmod (i:Int) 3∧Int.tmod (i:Int) 3 < ((3:Nat):Int):=by rw [show Int.tmod (i:Int) 3=((i % 3:Nat):Int) from Int.ofNat_tmod i 3];omega
  have hprod:0≤qVl i*qQy (bI c)∧qVl i*qQy (bI c)≤7*35:=⟨Int.mul_nonneg (by omega) hval,Int.mul_le_mul hwg.2 hval2.2 (by omega) (by omega)⟩
  have hww:IntKind.i64.wrap (qDl 0 (s.take i)+IntKind.i64.wrap (qVl i*qQy (qDs s (i:Int))))=qDl 0 (s.take (i+1)):=by
   rw [hsa,qAe (n:=qVl i*qQy (bI c)) (by omega),qAe (by omega),hsn]
  refine ww ?_
  refine qBc (qAc (arrPtr_ok hT rfl rfl rfl rfl htm)) rfl rfl ?_
  refine qBc (qBr hT rfl rfl rfl rfl rfl hix) rfl rfl ?_
  refine ww ?_
  refine wwc hva ?_
  refine ww ?_
  exact ⟨i+1,by omega,by omega,⟨.refl _,.refl _,.int hww,.refl _,.int hwr,trivial⟩,HLe.refl _⟩
 ·have h2':i=s.length:=by simp at h2;omega
  subst h2'
  rw [List.take_length] at hdr ⊢
  have hm:Int.tmod (qDl 0 s) 10=qDl 0 s % 10:=Int.tmod_eq_emod_of_nonneg hdr.1
  have hm1:=Int.emod_nonneg (qDl 0 s) (b:=10) (by omega)
  have hm2:=Int.emod_lt_of_pos (qDl 0 s) (b:=10) (by omega)
  have hww:IntKind.i32.wrap (IntKind.i64.wrap (48+Int.tmod (qDl 0 s) 10))=48+qDl 0 s % 10:=by
   rw [hm,qAe (by omega)]
   unfold IntKind.wrap;simp [IntKind.bits,IntKind.signed];omega
  refine ww ?_
  rw [hww]
  refine qAd (qAc (runeStr_ok hT rfl rfl rfl rfl ⟨by omega,by omega⟩)) rfl ?_
  refine ww ?_
  refine rq ⟨rfl,rfl⟩ rfl (AV.le.tup ⟨.str rfl,.refl _,trivial⟩)
theorem digitP_spec (s:List UInt8) (hs:s.length≤1000000):Spec Tryz.prog 167 [.d (.str s)] [] (fun r h'=>r=.d (.str (qBx s).1)∧h'=[]):=by
 have hd:=qXu s hs
 generalize qBx s=d at hd
 refine qAb hT Tryz.func167 rfl rfl rfl rfl ?_;intro E hE
 refine ww ?_
 refine wwc hd ?_
 refine ww ?_
 exact wwr
end Tdoc
namespace Tdoc
open Go Go.Proofs Go.RowKit
theorem repeatL_one (c:UInt8):∀ n,Lib.repeatL [c] n=List.replicate n c
 | 0=>rfl
 | n+1=>by rw [Lib.repeatL,repeatL_one c n];rfl
theorem qEp (n:Nat) (hn:n≤1000000):Spec Tryz.prog 165 [.d (.str [60]),.I (n:Int)] [] (fun r h'=>r=.d (.str (List.replicate n 60))∧h'=[]) :=
 qJe (qQd Tryz.func165 rfl rfl) rfl fun G w vals h1 h2 ht hi=>by
  obtain ⟨u,v,rfl,hu,hv⟩:=args2 h1 h2
  rw [hu.str_inv,hv.int_inv]
  refine (Tryz.strings_Repeat ⟨[60].toArray⟩ n w (by omega) (by rw [qLh];simp;omega)).mono ?_
  rintro e w' ⟨rfl,hb⟩
  refine ⟨_,rfl,?_,hb⟩
  show RepA G _ (.string ⟨(Lib.repeatL [60] n).toArray⟩)
  rw [repeatL_one]
  exact .d (.str _)
theorem qTn (s:List UInt8):Lib.replaceAll s [32] [60]=qMj s:=qVz 32 60 (by decide) s
theorem qHy (s:List UInt8) (hs:s.length≤1000000):Spec Tryz.prog 265 [.d (.str s),.d (.str [32]),.d (.str [60])] [] (fun r h'=>r=.d (.str (qMj s))∧h'=[]) :=
 qJe (qQd Tryz.func265 rfl rfl) rfl fun G w vals h1 h2 ht hi=>by
  obtain ⟨u,v,x,rfl,hu,hv,hx⟩:=args3 h1 h2
  rw [hu.str_inv,hv.str_inv,hx.str_inv]
  obtain ⟨_,o,ho,m,t,f,rfl⟩:=ht.2 6 _ rfl
  have hc:=Lib.count_le s [32]
  refine (Tryz.strings_ReplaceAll ⟨s.toArray⟩ ⟨#[32]⟩ ⟨#[60]⟩ m w (by rw [qLh];omega) (by simp [World.cell?,ho]) (by decide) (by rw [qLh];show s.length+Lib.count s [32]*1≤_;omega)).mono ?_
  rintro e w' ⟨rfl,hb⟩
  refine ⟨_,rfl,?_,hb⟩
  rw [← qTn]
  exact .d (.str _)
theorem qTa (s:List UInt8) (n:Nat):(s++List.replicate n 60).take n=(qBo s n).take n:=by
 unfold qBo
 rw [List.take_append,List.take_append,List.take_replicate,List.take_replicate,Nat.min_eq_left (by omega),Nat.min_self]
theorem qXn (sur giv:List UInt8) (w:Int) (h1:sur.length≤100000) (h2:giv.length≤100000):Spec Tryz.prog 166 [.d (.str sur),.d (.str giv),.I w] [] (fun r h'=>r=.tup [.d (.str (qGq sur giv w).1),.d (.int .i64 (qGq sur giv w).2)]∧h'=[]):=by
 have hn1:=qJf sur (by omega)
 have hn2:=qJf giv (by omega)
 unfold qGq
 by_cases hg:qFm true sur=false∨qFm true giv=false∨sur=[]
 ·rw [if_pos hg]
  generalize qFm true sur=b1 at hn1 hg
  generalize qFm true giv=b2 at hn2 hg
  refine qAb hT Tryz.func166 rfl rfl rfl rfl ?_;intro E hE
  refine ww ?_
  refine wwc hn1 ?_
  refine ww ?_
  refine wwgc hn2 ?_
  refine ww ?_
  refine qAa rfl (fun c1=>?_) (fun c1=>?_)
  ·refine ww ?_
   exact wwr
  ·exfalso
   rcases hg with rfl | rfl | rfl <;> simp at c1
 ·rw [if_neg hg]
  simp only [not_or,Bool.not_eq_false] at hg
  obtain ⟨g1,g2,g3⟩:=hg
  rw [g1] at hn1
  rw [g2] at hn2
  by_cases hw:w < 1∨w > 64
  ·rw [if_pos hw]
   refine qAb hT Tryz.func166 rfl rfl rfl rfl ?_;intro E hE
   refine ww ?_
   refine wwc hn1 ?_
   refine ww ?_
   refine wwgc hn2 ?_
   refine ww ?_
   refine qAa rfl (fun c1=>?_) (fun c1=>?_)
   ·exact absurd c1 (by simpa using g3)
   refine ww ?_
   refine qAa rfl (fun c2=>?_) (fun c2=>?_)
   ·refine ww ?_
    exact wwr
   ·exact absurd c2 (by simp;omega)
  ·rw [if_neg hw]
   obtain ⟨n,rfl⟩:∃ n:Nat,w=(n:Int):=⟨w.toNat,by omega⟩
   have hR:=qEp n (by omega)
   by_cases h0:giv=[]
   ·have hF:=qHy sur (by omega)
    have hx:qTp sur giv=qMj sur:=by unfold qTp;rw [if_pos h0];simp
    have hl:=fillS_length sur
    rw [hx,← qTa]
    subst h0
    generalize qMj sur=x at hF hl
    refine qAb hT Tryz.func166 rfl rfl rfl rfl ?_;intro E hE
    refine ww ?_
    refine wwc hn1 ?_
    refine ww ?_
    refine wwgc hn2 ?_
    refine ww ?_
    refine qAa rfl (fun c1=>?_) (fun c1=>?_)
    ·exact absurd c1 (by simpa using g3)
    refine ww ?_
    refine qAa rfl (fun c2=>?_) (fun c2=>?_)
    ·exact absurd c2 (by simp;omega)
    refine ww ?_
    refine qAa rfl (fun c3=>?_) (fun c3=>?_)
    ·exact absurd c3 (by simp)
    refine ww ?_
    refine wwc hF ?_
    refine ww ?_
    refine wwc hR ?_
    refine ww ?_
    exact wwr
   ·have hF:=qHy (sur++([32,32]++giv)) (by simp;omega)
    have hx:qTp sur giv=qMj (sur++([32,32]++giv)):=by unfold qTp;rw [if_neg h0];simp [qMj]
    have hl:(qMj (sur++([32,32]++giv))).length=sur.length+(giv.length+2):=by rw [fillS_length];simp
    rw [hx,← qTa]
    generalize qMj (sur++([32,32]++giv))=x at hF hl
    refine qAb hT Tryz.func166 rfl rfl rfl rfl ?_;intro E hE
    refine ww ?_
    refine wwc hn1 ?_
    refine ww ?_
    refine wwgc hn2 ?_
    refine ww ?_
    refine qAa rfl (fun c1=>?_) (fun c1=>?_)
    ·exact absurd c1 (by simpa using g3)
    refine ww ?_
    refine qAa rfl (fun c2=>?_) (fun c2=>?_)
    ·exact absurd c2 (by simp;omega)
    refine ww ?_
    refine qAa rfl (fun c3=>?_) (fun c3=>?_)
    ·refine ww ?_
     refine wwc hF ?_
     refine ww ?_
     refine wwc hR ?_
     refine ww ?_
     exact wwr
    ·exact absurd c3 (by simpa using h0)
end Tdoc
namespace Tdoc
open Go Go.Proofs
theorem cutS_L (s:List UInt8) (a b:Nat):qJo s a b=qOf s (a:Int) (b:Int):=by simp [qJo,qOf,List.drop_take]
theorem cutL_len (s:List UInt8) (a b:Int) (h0:0≤a) (h:b≤(s.length:Int)):(qOf s a b).length=b.toNat-a.toNat:=by simp [qOf];omega
theorem vDi (s g:List UInt8) (w:Int):(qGq s g w).1.length≤w.toNat:=by
 unfold qGq
 split
 ·simp
 split
 ·simp
 ·simp;omega
def plA (L:List Int) (i:Nat):Int:=L.getD (3*i) 0
def plB (L:List Int) (i:Nat):Int:=L.getD (3*i+1) 0
def plC (L:List Int) (i:Nat):Int:=L.getD (3*i+2) 0
end Tdoc
