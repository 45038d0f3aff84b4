/- The texts YB H2 XQ OG XN XO OH XR Z7 XS Z8 Z9 ZA XT XU XW ZB XX XY XV O1 O2 O3 XP O4 O5 O6 O7 O8: each says at its head what it shows. Part 5 of the proof; no conditions beyond the theorems' own. -/
import Derived.Test.YtnjanpmgonoeeaaGreatDoorKP4
import Derived.Test.YtnjanpmgonoeeaaGreatDoorKP3
import Derived.Shelf.Strings.Builder1
import Derived.Shelf.Strings.Builder2
import Derived.Shelf.Strings.Trim
import Derived.Shelf.Small.Utf8
import Derived.Shelf.Small.Strs
import Derived.Shelf.Strings.BuilderF
import Derived.Shelf.Strings.Search1
import Derived.Shelf.Strings.Search2
import Derived.Shelf.Strings.Search3
import Derived.Shelf.Strings.Cut
import Derived.Shelf.Strings.Count
import Derived.Shelf.LaysM
import Derived.Shelf.Strings.Shaped
import Derived.Shelf.Strings.Prefix
import Derived.Shelf.Strings.Split
import Derived.Shelf.Strings.Replace
import Derived.Shelf.Strings.SplitShaped
import Derived.Shelf.Strings.Runes
import Derived.Shelf.Strings.AsciiSet
import Derived.Shelf.Bits.Mul64
import Derived.Shelf.Strings.Repeat
import Derived.Shelf.Unicode.DecodeSlow
import Derived.Shelf.Bytes.SlEqualAll
import Derived.Shelf.Bytes.Small
import Derived.Test.YtnjanpmgonoeeaaGreatDoorProg
import Derived.Test.YtnjanpmgonoeeaaGreatDoorKP2
import Derived.Shelf.Strings.SlTrimAscii
import Derived.Test.YtnjanpmgonoeeaaGreatDoorKP1
/- Plain: what the lines of an optical zone say. -/
set_option linter.unusedVariables false
set_option linter.unusedSimpArgs false
namespace Tdoc
open Go
def zon0:Zon:=⟨0,[],[],[],[],[],[],[],[],[],[],[]⟩
structure Fl where
 kind:List UInt8
 state:List UInt8
 names:List UInt8
 num:List UInt8
 dg:List UInt8
 nat:List UInt8
 bir:List UInt8
 bd:List UInt8
 sex:List UInt8
 exp:List UInt8
 ed:List UInt8
 opt:List UInt8
 od:List UInt8
 sec:List UInt8
 comp:List UInt8
 all:List UInt8
def shapeF (ls:List (List UInt8)):Int:=match ls with
 | [a,b,c]=>if a.length=30∧b.length=30∧c.length=30 then 1 else 0
 | [a,b]=>if a.length=36∧b.length=36 then 2 else if a.length=44∧b.length=44 then 3 else 0
 | _=>0
def fld1 (a b c:List UInt8):Fl:=⟨cutS a 0 2,cutS a 2 5,c,cutS a 5 14,cutS a 14 15,cutS b 15 18,cutS b 0 6,cutS b 6 7,cutS b 7 8,cutS b 8 14,cutS b 14 15,cutS a 15 30,[],cutS b 18 29,cutS b 29 30,
 cutS a 5 30++cutS b 0 7++cutS b 8 15++cutS b 18 29⟩
def fld2 (a b:List UInt8):Fl:=⟨cutS a 0 2,cutS a 2 5,cutS a 5 36,cutS b 0 9,cutS b 9 10,cutS b 10 13,cutS b 13 19,cutS b 19 20,cutS b 20 21,cutS b 21 27,cutS b 27 28,cutS b 28 35,[],[],cutS b 35 36,
 cutS b 0 10++cutS b 13 20++cutS b 21 35⟩
def fld3 (a b:List UInt8):Fl:=⟨cutS a 0 2,cutS a 2 5,cutS a 5 44,cutS b 0 9,cutS b 9 10,cutS b 10 13,cutS b 13 19,cutS b 19 20,cutS b 20 21,cutS b 21 27,cutS b 27 28,cutS b 28 42,cutS b 42 43,[],cutS b 43 44,
 cutS b 0 10++cutS b 13 20++cutS b 21 43⟩
def chkF (f:Int) (x:Fl):Bool:=decide (x.dg=[60]∨x.dg=digitS x.num)&&(decide (x.bd=digitS x.bir)&&(decide (x.ed=digitS x.exp)&&(decide (f≠3∨x.od=digitS x.opt∨(trimF x.opt=[]∧x.od=[60]))&&decide (x.comp=digitS x.all))))
def lenTo (s:List UInt8):Nat:=(s.takeWhile (· != 60)).length
def numF (f:Int) (x:Fl):List UInt8×List UInt8×Int :=
 if x.dg≠[60] then (trimF x.num,trimF x.opt,0)
 else if f=3∨lenTo x.opt < 2∨lenTo x.opt=x.opt.length then ([],[],1)
 else if [x.opt.getD (lenTo x.opt-1) 0]≠digitS (x.num++x.opt.take (lenTo x.opt-1)) then ([],[],13)
 else (x.num++x.opt.take (lenTo x.opt-1),trimF (x.opt.drop (lenTo x.opt+1)),0)
def finZ (f:Int) (x:Fl):Zon:=⟨f,trimF x.kind,trimF x.state,(splitR x.names).1,(splitR x.names).2.1,(numF f x).1,trimF x.nat,x.bir,x.sex,x.exp,(numF f x).2.1,trimF x.sec⟩
def coreZ (f:Int) (x:Fl):Zon×Int :=
 if chkF f x=false then (zon0,13) else if (numF f x).2.2≠0 then (zon0,(numF f x).2.2) else if (splitR x.names).2.2≠0 then (zon0,(splitR x.names).2.2)
 else if validZ (finZ f x)≠0 then (zon0,validZ (finZ f x)) else (finZ f x,0)
def parseZ (ls:List (List UInt8)):Zon×Int :=
 if shapeF ls=0 then (zon0,2) else if ls.all validS=false then (zon0,12) else match ls with
  | [a,b,c]=>coreZ 1 (fld1 a b c)
  | [a,b]=>if a.length=36 then coreZ 2 (fld2 a b) else coreZ 3 (fld3 a b)
  | _=>(zon0,2)
def zoneT (s:List UInt8):Zon×Int :=
 if s.length=90 then parseZ [cutS s 0 30,cutS s 30 60,cutS s 60 90] else if s.length=72 then parseZ [cutS s 0 36,cutS s 36 72] else if s.length=88 then parseZ [cutS s 0 44,cutS s 44 88] else (zon0,2)
def zoneL (l:List Node):Zon×Int:=match l with
 | [x]=>if primF x 24351 (-1)=true then zoneT (valN x) else (zon0,1)
 | _=>(zon0,1)
def zoneO (b:List UInt8):Zon×Int:=if (openZ b 1 1).2.2≠0 then (zon0,(openZ b 1 1).2.2) else zoneL (openZ b 1 1).2.1
theorem qBh (s:List UInt8) (a b:Nat) (h:b≤s.length):(cutS s a b).length=b-a:=by unfold cutS;simp;omega
theorem validS_mem:∀ {s:List UInt8},validS s=true↔∀ c,c∈s→0≤valC (bI c)
 | []=>by simp [validS]
 | c::l=>by simp [validS,validS_mem (s:=l)]
theorem validS_sub {s t:List UInt8} (h:validS s=true) (ht:∀ c,c∈t→c∈s):validS t=true:=validS_mem.2 fun c hc=>validS_mem.1 h c (ht c hc)
theorem qAp {s:List UInt8} (a b:Nat) (h:validS s=true):validS (cutS s a b)=true:=validS_sub h fun c hc=>List.mem_of_mem_take (List.mem_of_mem_drop hc)
theorem validS_tk {s:List UInt8} (a:Nat) (h:validS s=true):validS (s.take a)=true:=validS_sub h fun c hc=>List.mem_of_mem_take hc
theorem digitF_ok {s:List UInt8} (h:validS s=true):digitF s=(digitS s,0):=by unfold digitF;rw [if_pos h]
theorem lenTo_cons (c:UInt8) (l:List UInt8):lenTo (c::l)=if c=60 then 0 else lenTo l+1:=by
 unfold lenTo
 rw [List.takeWhile_cons]
 by_cases h:c=60 <;> simp [h]
theorem lenTo_le:∀ (s:List UInt8),lenTo s≤s.length
 | []=>Nat.le_refl _
 | c::l=>by rw [lenTo_cons];have:=lenTo_le l;simp only [List.length_cons];split <;> omega
theorem lenTo_ne:∀ {s:List UInt8} {i:Nat} {c:UInt8},i < lenTo s→s[i]?=some c→c≠60
 | [],_,_,h,hc=>by simp at hc
 | d::l,i,c,h,hc=>by
  rw [lenTo_cons] at h
  split at h
  ·omega
  ·rename_i hd
   cases i with
   | zero=>simp at hc;subst hc;exact hd
   | succ i=>exact lenTo_ne (s:=l) (i:=i) (by omega) (by simpa using hc)
theorem lenTo_at:∀ {s:List UInt8},lenTo s < s.length→s[lenTo s]?=some 60
 | [],h=>by simp [lenTo] at h
 | d::l,h=>by
  rw [lenTo_cons] at h ⊢
  split
  ·rename_i hd;simp [hd]
  ·rename_i hd;rw [if_neg hd] at h;simpa using lenTo_at (s:=l) (by simpa using h)
theorem lenTo_is {s:List UInt8} {k:Nat} (h1:∀ (i:Nat) (c:UInt8),i < k→s[i]?=some c→c≠60) (hk:k≤s.length) (h2:k=s.length∨s[k]?=some 60):lenTo s=k:=by
 rcases Nat.lt_trichotomy (lenTo s) k with h | h | h
 ·exact absurd rfl (h1 _ _ h (lenTo_at (by omega)))
 ·exact h
 ·rcases h2 with h2 | h2
  ·have:=lenTo_le s;omega
  ·exact absurd rfl (lenTo_ne h h2)
theorem cut_one (s:List UInt8):Lib.cut s [60]=if lenTo s=s.length then (s,[],false) else (s.take (lenTo s),s.drop (lenTo s+1),true):=by
 have h:∀ s:List UInt8,Lib.index s [60]=if lenTo s=s.length then -1 else (lenTo s:Int):=by
  intro s
  induction s with
  | nil=>rfl
  | cons c l ih =>
   have hl:=lenTo_le l
   rw [index_one,ih,lenTo_cons,List.length_cons]
   by_cases hc:c=60
   ·rw [if_pos hc,if_pos hc,if_neg (by omega)];rfl
   ·rw [if_neg hc,if_neg hc]
    by_cases hq:lenTo l=l.length
    ·rw [if_pos hq,if_pos rfl,if_pos (by omega)]
    ·rw [if_neg hq,if_neg (by omega),if_neg (by omega)];omega
 unfold Lib.cut
 rw [h]
 by_cases hq:lenTo s=s.length
 ·rw [if_pos hq,if_neg (by omega),if_pos hq]
 ·rw [if_neg hq,if_pos (by omega),if_neg hq];simp
end Tdoc
/- The library's contracts at this program: what the kit's lay-plain wrote, cut to those that are used. -/
namespace Go.Proofs
open Go.Shelf
def Tryz.lays162_ren:Go.Shelf.Ren:=⟨fun | 162=>223 | 232=>255 | 227=>256 | 234=>258 | 236=>260 | 228=>272 | 271=>274 | 151=>273 | 120=>286 | 197=>271 | 152=>285 | 260=>284 | 137=>289 | 119=>290 | 224=>280 | 225=>279 | 217=>278 | 266=>287 | n=>n,fun | 9=>9 | 4=>4 | 3=>3 | 5=>5 | 117=>244 | 116=>243 | 0=>0 | 124=>247 | 21=>21 | 105=>252 | 46=>93 | 119=>261 | 139=>264 | 138=>263 | n=>n,fun | 3=>5 | 4=>6 | n=>n⟩
theorem Tryz.lays162:Go.Proofs.Lays.n162 Tryz.prog Tryz.lays162_ren:={
 mixed:=by kernel_rfl
 f119:=Tryz.func290.trans (congrArg some (by kernel_rfl))
 f120:=Tryz.func286.trans (congrArg some (by kernel_rfl))
 f137:=Tryz.func289.trans (congrArg some (by kernel_rfl))
 f151:=Tryz.func273.trans (congrArg some (by kernel_rfl))
 f152:=Tryz.func285.trans (congrArg some (by kernel_rfl))
 f162:=Tryz.func223.trans (congrArg some (by kernel_rfl))
 f197:=Tryz.func271.trans (congrArg some (by kernel_rfl))
 f217:=Tryz.func278.trans (congrArg some (by kernel_rfl))
 f224:=Tryz.func280.trans (congrArg some (by kernel_rfl))
 f225:=Tryz.func279.trans (congrArg some (by kernel_rfl))
 f227:=Tryz.func256.trans (congrArg some (by kernel_rfl))
 f228:=Tryz.func272.trans (congrArg some (by kernel_rfl))
 f232:=Tryz.func255.trans (congrArg some (by kernel_rfl))
 f234:=Tryz.func258.trans (congrArg some (by kernel_rfl))
 f236:=Tryz.func260.trans (congrArg some (by kernel_rfl))
 f260:=Tryz.func284.trans (congrArg some (by kernel_rfl))
 f266:=Tryz.func287.trans (congrArg some (by kernel_rfl))
 f271:=Tryz.func274.trans (congrArg some (by kernel_rfl))
 t0:=Tryz.underlying0
 a0:=Tryz.isAgg0
 z0:=Tryz.sizeOf0
 v0:=Tryz.zeroValue0
 t3:=Tryz.underlying3
 a3:=Tryz.isAgg3
 z3:=Tryz.sizeOf3
 v3:=Tryz.zeroValue3
 t4:=Tryz.underlying4
 a4:=Tryz.isAgg4
 z4:=Tryz.sizeOf4
 v4:=Tryz.zeroValue4
 t5:=Tryz.underlying5
 a5:=Tryz.isAgg5
 z5:=Tryz.sizeOf5
 v5:=Tryz.zeroValue5
 t9:=Tryz.underlying9
 a9:=Tryz.isAgg9
 z9:=Tryz.sizeOf9
 v9:=Tryz.zeroValue9
 t21:=Tryz.underlying21
 a21:=Tryz.isAgg21
 z21:=Tryz.sizeOf21
 v21:=Tryz.zeroValue21
 t46:=Tryz.underlying93
 a46:=Tryz.isAgg93
 z46:=Tryz.sizeOf93
 v46:=Tryz.zeroValue93
 t105:=Tryz.underlying252
 a105:=Tryz.isAgg252
 z105:=Tryz.sizeOf252
 v105:=Tryz.zeroValue252
 t116:=Tryz.underlying243
 a116:=Tryz.isAgg243
 z116:=Tryz.sizeOf243
 t117:=Tryz.underlying244
 a117:=Tryz.isAgg244
 z117:=Tryz.sizeOf244
 v117:=Tryz.zeroValue244
 t119:=Tryz.underlying261
 a119:=Tryz.isAgg261
 z119:=Tryz.sizeOf261
 t124:=Tryz.underlying247
 a124:=Tryz.isAgg247
 z124:=Tryz.sizeOf247
 v124:=Tryz.zeroValue247
 t138:=Tryz.underlying263
 a138:=Tryz.isAgg263
 z138:=Tryz.sizeOf263
 v138:=Tryz.zeroValue263
 t139:=Tryz.underlying264
 a139:=Tryz.isAgg264
 z139:=Tryz.sizeOf264
 v139:=Tryz.zeroValue264
 g3:=by kernel_rfl
 g4:=by kernel_rfl }
open Go.RowKit in
theorem Tryz.strings_TrimRight_one (s:ByteArray) (c:UInt8) (hc:c.toNat < 128) (w:World) (hs:s.size≤9223372036854775807) :
  Calls Tryz.prog 223 #[.string s,.string ⟨#[c]⟩] w fun e w'=>e=.returned (.string ⟨(Lib.trimRightB s.data.toList c).toArray⟩)∧w'=w:=Any.strings_TrimRight_one Tryz.lays162 s c hc w hs
def Tryz.lays160_ren:Go.Shelf.Ren:=⟨fun | 160=>221 | 232=>255 | 231=>254 | 227=>256 | 234=>258 | 233=>257 | 236=>260 | 235=>259 | 228=>272 | 271=>274 | 151=>273 | 197=>271 | 120=>286 | 152=>285 | 260=>284 | 137=>289 | 119=>290 | 224=>280 | 225=>279 | 217=>278 | 266=>287 | n=>n,fun | 9=>9 | 4=>4 | 3=>3 | 5=>5 | 117=>244 | 116=>243 | 0=>0 | 124=>247 | 21=>21 | 105=>252 | 46=>93 | 119=>261 | 139=>264 | 138=>263 | n=>n,fun | 3=>5 | 4=>6 | n=>n⟩
theorem Tryz.lays160:Go.Proofs.Lays.n160 Tryz.prog Tryz.lays160_ren:={
 mixed:=by kernel_rfl
 f119:=Tryz.func290.trans (congrArg some (by kernel_rfl))
 f120:=Tryz.func286.trans (congrArg some (by kernel_rfl))
 f137:=Tryz.func289.trans (congrArg some (by kernel_rfl))
 f151:=Tryz.func273.trans (congrArg some (by kernel_rfl))
 f152:=Tryz.func285.trans (congrArg some (by kernel_rfl))
 f160:=Tryz.func221.trans (congrArg some (by kernel_rfl))
 f197:=Tryz.func271.trans (congrArg some (by kernel_rfl))
 f217:=Tryz.func278.trans (congrArg some (by kernel_rfl))
 f224:=Tryz.func280.trans (congrArg some (by kernel_rfl))
 f225:=Tryz.func279.trans (congrArg some (by kernel_rfl))
 f227:=Tryz.func256.trans (congrArg some (by kernel_rfl))
 f228:=Tryz.func272.trans (congrArg some (by kernel_rfl))
 f231:=Tryz.func254.trans (congrArg some (by kernel_rfl))
 f232:=Tryz.func255.trans (congrArg some (by kernel_rfl))
 f233:=Tryz.func257.trans (congrArg some (by kernel_rfl))
 f234:=Tryz.func258.trans (congrArg some (by kernel_rfl))
 f235:=Tryz.func259.trans (congrArg some (by kernel_rfl))
 f236:=Tryz.func260.trans (congrArg some (by kernel_rfl))
 f260:=Tryz.func284.trans (congrArg some (by kernel_rfl))
 f266:=Tryz.func287.trans (congrArg some (by kernel_rfl))
 f271:=Tryz.func274.trans (congrArg some (by kernel_rfl))
 t0:=Tryz.underlying0
 a0:=Tryz.isAgg0
 z0:=Tryz.sizeOf0
 v0:=Tryz.zeroValue0
 t3:=Tryz.underlying3
 a3:=Tryz.isAgg3
 z3:=Tryz.sizeOf3
 v3:=Tryz.zeroValue3
 t4:=Tryz.underlying4
 a4:=Tryz.isAgg4
 z4:=Tryz.sizeOf4
 v4:=Tryz.zeroValue4
 t5:=Tryz.underlying5
 a5:=Tryz.isAgg5
 z5:=Tryz.sizeOf5
 v5:=Tryz.zeroValue5
 t9:=Tryz.underlying9
 a9:=Tryz.isAgg9
 z9:=Tryz.sizeOf9
 v9:=Tryz.zeroValue9
 t21:=Tryz.underlying21
 a21:=Tryz.isAgg21
 z21:=Tryz.sizeOf21
 v21:=Tryz.zeroValue21
 t46:=Tryz.underlying93
 a46:=Tryz.isAgg93
 z46:=Tryz.sizeOf93
 v46:=Tryz.zeroValue93
 t105:=Tryz.underlying252
 a105:=Tryz.isAgg252
 z105:=Tryz.sizeOf252
 v105:=Tryz.zeroValue252
 t116:=Tryz.underlying243
 a116:=Tryz.isAgg243
 z116:=Tryz.sizeOf243
 t117:=Tryz.underlying244
 a117:=Tryz.isAgg244
 z117:=Tryz.sizeOf244
 v117:=Tryz.zeroValue244
 t119:=Tryz.underlying261
 a119:=Tryz.isAgg261
 z119:=Tryz.sizeOf261
 t124:=Tryz.underlying247
 a124:=Tryz.isAgg247
 z124:=Tryz.sizeOf247
 v124:=Tryz.zeroValue247
 t138:=Tryz.underlying263
 a138:=Tryz.isAgg263
 z138:=Tryz.sizeOf263
 v138:=Tryz.zeroValue263
 t139:=Tryz.underlying264
 a139:=Tryz.isAgg264
 z139:=Tryz.sizeOf264
 v139:=Tryz.zeroValue264
 g3:=by kernel_rfl
 g4:=by kernel_rfl }
open Go.RowKit in
theorem Tryz.strings_Trim_one (s:ByteArray) (c:UInt8) (hc:c.toNat < 128) (w:World) (hs:s.size≤9223372036854775807) :
  Calls Tryz.prog 221 #[.string s,.string ⟨#[c]⟩] w fun e w'=>e=.returned (.string ⟨(Lib.trimB s.data.toList c).toArray⟩)∧(w'=w∨w'=w.drew):=Any.strings_Trim_one Tryz.lays160 s c hc w hs
def Tryz.lays144_ren:Go.Shelf.Ren:=⟨fun | 144=>186 | 143=>240 | 219=>266 | 217=>278 | 225=>279 | 224=>280 | 267=>281 | 266=>287 | 314=>288 | n=>n,fun | 9=>9 | 4=>4 | 3=>3 | 5=>5 | 46=>93 | 146=>230 | 51=>229 | n=>n,fun | 1=>4 | n=>n⟩
theorem Tryz.lays144:Go.Proofs.Lays.n144 Tryz.prog Tryz.lays144_ren:={
 mixed:=by kernel_rfl
 f143:=Tryz.func240.trans (congrArg some (by kernel_rfl))
 f144:=Tryz.func186.trans (congrArg some (by kernel_rfl))
 f217:=Tryz.func278.trans (congrArg some (by kernel_rfl))
 f219:=Tryz.func266.trans (congrArg some (by kernel_rfl))
 f224:=Tryz.func280.trans (congrArg some (by kernel_rfl))
 f225:=Tryz.func279.trans (congrArg some (by kernel_rfl))
 f266:=Tryz.func287.trans (congrArg some (by kernel_rfl))
 f267:=Tryz.func281.trans (congrArg some (by kernel_rfl))
 f314:=Tryz.func288.trans (congrArg some (by kernel_rfl))
 t3:=Tryz.underlying3
 a3:=Tryz.isAgg3
 z3:=Tryz.sizeOf3
 v3:=Tryz.zeroValue3
 t4:=Tryz.underlying4
 a4:=Tryz.isAgg4
 z4:=Tryz.sizeOf4
 v4:=Tryz.zeroValue4
 t5:=Tryz.underlying5
 a5:=Tryz.isAgg5
 z5:=Tryz.sizeOf5
 v5:=Tryz.zeroValue5
 t9:=Tryz.underlying9
 a9:=Tryz.isAgg9
 z9:=Tryz.sizeOf9
 v9:=Tryz.zeroValue9
 t46:=Tryz.underlying93
 a46:=Tryz.isAgg93
 z46:=Tryz.sizeOf93
 v46:=Tryz.zeroValue93
 t51:=Tryz.underlying229
 a51:=Tryz.isAgg229
 z51:=Tryz.sizeOf229
 v51:=Tryz.zeroValue229
 t146:=Tryz.underlying230
 a146:=Tryz.isAgg230
 z146:=Tryz.sizeOf230
 v146:=Tryz.zeroValue230
 g1:=by kernel_rfl }
open Go.RowKit Go.Lib in
theorem Tryz.strings_Contains_one (s:ByteArray) (c:UInt8) (w:World) :
  Calls Tryz.prog 186 #[.string s,.string ⟨#[c]⟩] w fun e w'=>e=.returned (.bool (decide (0≤Lib.indexByte s.data.toList c)))∧w'=w:=Any.strings_Contains_one Tryz.lays144 s c w
def Tryz.lays145_ren:Go.Shelf.Ren:=⟨fun | 145=>222 | 220=>261 | 219=>266 | 217=>278 | 225=>279 | 224=>280 | 267=>281 | 266=>287 | 314=>288 | n=>n,fun | 9=>9 | 4=>4 | 59=>219 | 3=>3 | 5=>5 | 46=>93 | 146=>230 | 51=>229 | n=>n,fun | 1=>4 | n=>n⟩
theorem Tryz.lays145:Go.Proofs.Lays.n145 Tryz.prog Tryz.lays145_ren:={
 mixed:=by kernel_rfl
 f145:=Tryz.func222.trans (congrArg some (by kernel_rfl))
 f217:=Tryz.func278.trans (congrArg some (by kernel_rfl))
 f219:=Tryz.func266.trans (congrArg some (by kernel_rfl))
 f220:=Tryz.func261.trans (congrArg some (by kernel_rfl))
 f224:=Tryz.func280.trans (congrArg some (by kernel_rfl))
 f225:=Tryz.func279.trans (congrArg some (by kernel_rfl))
 f266:=Tryz.func287.trans (congrArg some (by kernel_rfl))
 f267:=Tryz.func281.trans (congrArg some (by kernel_rfl))
 f314:=Tryz.func288.trans (congrArg some (by kernel_rfl))
 t3:=Tryz.underlying3
 a3:=Tryz.isAgg3
 z3:=Tryz.sizeOf3
 v3:=Tryz.zeroValue3
 t4:=Tryz.underlying4
 a4:=Tryz.isAgg4
 z4:=Tryz.sizeOf4
 v4:=Tryz.zeroValue4
 t5:=Tryz.underlying5
 a5:=Tryz.isAgg5
 z5:=Tryz.sizeOf5
 v5:=Tryz.zeroValue5
 t9:=Tryz.underlying9
 a9:=Tryz.isAgg9
 z9:=Tryz.sizeOf9
 v9:=Tryz.zeroValue9
 t46:=Tryz.underlying93
 a46:=Tryz.isAgg93
 z46:=Tryz.sizeOf93
 v46:=Tryz.zeroValue93
 t51:=Tryz.underlying229
 a51:=Tryz.isAgg229
 z51:=Tryz.sizeOf229
 v51:=Tryz.zeroValue229
 t59:=Tryz.underlying219
 a59:=Tryz.isAgg219
 z59:=Tryz.sizeOf219
 v59:=Tryz.zeroValue219
 t146:=Tryz.underlying230
 a146:=Tryz.isAgg230
 z146:=Tryz.sizeOf230
 v146:=Tryz.zeroValue230
 g1:=by kernel_rfl }
open Go.RowKit Go.Lib in
theorem Tryz.strings_Cut (s sep:ByteArray) (m:Int) (w:World) (hs:s.size < 4294967281) (hm:w.cell? ⟨4,0,none⟩=some (.int .i64 m)) :
  Calls Tryz.prog 222 #[.string s,.string sep] w fun e w'=>e=.returned (.tuple #[.string ⟨(Lib.cut s.data.toList sep.data.toList).1.toArray⟩,.string ⟨(Lib.cut s.data.toList sep.data.toList).2.1.toArray⟩,.bool (Lib.cut s.data.toList sep.data.toList).2.2])∧∃ n,w'=w.drewN n:=Any.strings_Cut Tryz.lays145 s sep m w hs hm
def Tryz.lays99_ren:Go.Shelf.Ren:=⟨fun | 99=>191 | 206=>244 | n=>n,fun | 9=>9 | 4=>4 | 3=>3 | n=>n,fun | n=>n⟩
theorem Tryz.lays99:Go.Proofs.Lays.n99 Tryz.prog Tryz.lays99_ren:={
 mixed:=by kernel_rfl
 f99:=Tryz.func191.trans (congrArg some (by kernel_rfl))
 f206:=Tryz.func244.trans (congrArg some (by kernel_rfl))
 t3:=Tryz.underlying3
 a3:=Tryz.isAgg3
 z3:=Tryz.sizeOf3
 v3:=Tryz.zeroValue3
 t4:=Tryz.underlying4
 a4:=Tryz.isAgg4
 z4:=Tryz.sizeOf4
 v4:=Tryz.zeroValue4
 t9:=Tryz.underlying9
 a9:=Tryz.isAgg9
 z9:=Tryz.sizeOf9
 v9:=Tryz.zeroValue9 }
open Go.RowKit Go.Lib in
theorem Tryz.strings_HasPrefix (s p:ByteArray) (w:World) :
  Calls Tryz.prog 191 #[.string s,.string p] w fun e w'=>e=.returned (.bool (Lib.hasPrefix s.data.toList p.data.toList))∧w'=w:=Any.strings_HasPrefix Tryz.lays99 s p w
def Tryz.lays100_ren:Go.Shelf.Ren:=⟨fun | 100=>241 | 207=>267 | n=>n,fun | 9=>9 | 4=>4 | 3=>3 | n=>n,fun | n=>n⟩
theorem Tryz.lays100:Go.Proofs.Lays.n100 Tryz.prog Tryz.lays100_ren:={
 mixed:=by kernel_rfl
 f100:=Tryz.func241.trans (congrArg some (by kernel_rfl))
 f207:=Tryz.func267.trans (congrArg some (by kernel_rfl))
 t3:=Tryz.underlying3
 a3:=Tryz.isAgg3
 z3:=Tryz.sizeOf3
 v3:=Tryz.zeroValue3
 t4:=Tryz.underlying4
 a4:=Tryz.isAgg4
 z4:=Tryz.sizeOf4
 v4:=Tryz.zeroValue4
 t9:=Tryz.underlying9
 a9:=Tryz.isAgg9
 z9:=Tryz.sizeOf9
 v9:=Tryz.zeroValue9 }
open Go.RowKit Go.Lib in
theorem Tryz.strings_HasSuffix (s p:ByteArray) (w:World) (hs:s.size≤9223372036854775807) :
  Calls Tryz.prog 241 #[.string s,.string p] w fun e w'=>e=.returned (.bool (Lib.hasSuffix s.data.toList p.data.toList))∧w'=w:=Any.strings_HasSuffix Tryz.lays100 s p w hs
def Tryz.lays155_ren:Go.Shelf.Ren:=⟨fun | 155=>196 | 154=>247 | 138=>270 | 165=>192 | 143=>240 | 166=>193 | 197=>271 | 169=>195 | 195=>282 | 218=>283 | 240=>245 | 241=>246 | 219=>266 | 260=>284 | 276=>268 | 277=>269 | 217=>278 | 225=>279 | 224=>280 | 267=>281 | 266=>287 | 314=>288 | n=>n,fun | 9=>9 | 3=>3 | 4=>4 | 72=>196 | 0=>0 | 76=>200 | 105=>252 | 21=>21 | 5=>5 | 70=>194 | 20=>20 | 37=>27 | 75=>199 | 127=>235 | 164=>250 | 46=>93 | 119=>261 | 139=>264 | 138=>263 | 146=>230 | 51=>229 | 80=>156 | n=>n,fun | 1=>4 | 3=>5 | 4=>6 | n=>n⟩
theorem Tryz.lays155:Go.Proofs.Lays.n155 Tryz.prog Tryz.lays155_ren:={
 mixed:=by kernel_rfl
 f138:=Tryz.func270.trans (congrArg some (by kernel_rfl))
 f143:=Tryz.func240.trans (congrArg some (by kernel_rfl))
 f154:=Tryz.func247.trans (congrArg some (by kernel_rfl))
 f155:=Tryz.func196.trans (congrArg some (by kernel_rfl))
 f165:=Tryz.func192.trans (congrArg some (by kernel_rfl))
 f166:=Tryz.func193.trans (congrArg some (by kernel_rfl))
 f169:=Tryz.func195.trans (congrArg some (by kernel_rfl))
 f195:=Tryz.func282.trans (congrArg some (by kernel_rfl))
 f197:=Tryz.func271.trans (congrArg some (by kernel_rfl))
 f217:=Tryz.func278.trans (congrArg some (by kernel_rfl))
 f218:=Tryz.func283.trans (congrArg some (by kernel_rfl))
 f219:=Tryz.func266.trans (congrArg some (by kernel_rfl))
 f224:=Tryz.func280.trans (congrArg some (by kernel_rfl))
 f225:=Tryz.func279.trans (congrArg some (by kernel_rfl))
 f240:=Tryz.func245.trans (congrArg some (by kernel_rfl))
 f241:=Tryz.func246.trans (congrArg some (by kernel_rfl))
 f260:=Tryz.func284.trans (congrArg some (by kernel_rfl))
 f266:=Tryz.func287.trans (congrArg some (by kernel_rfl))
 f267:=Tryz.func281.trans (congrArg some (by kernel_rfl))
 f276:=Tryz.func268.trans (congrArg some (by kernel_rfl))
 f277:=Tryz.func269.trans (congrArg some (by kernel_rfl))
 f314:=Tryz.func288.trans (congrArg some (by kernel_rfl))
 t0:=Tryz.underlying0
 a0:=Tryz.isAgg0
 z0:=Tryz.sizeOf0
 v0:=Tryz.zeroValue0
 t3:=Tryz.underlying3
 a3:=Tryz.isAgg3
 z3:=Tryz.sizeOf3
 v3:=Tryz.zeroValue3
 t4:=Tryz.underlying4
 a4:=Tryz.isAgg4
 z4:=Tryz.sizeOf4
 v4:=Tryz.zeroValue4
 t5:=Tryz.underlying5
 a5:=Tryz.isAgg5
 z5:=Tryz.sizeOf5
 v5:=Tryz.zeroValue5
 t9:=Tryz.underlying9
 a9:=Tryz.isAgg9
 z9:=Tryz.sizeOf9
 v9:=Tryz.zeroValue9
 t20:=Tryz.underlying20
 a20:=Tryz.isAgg20
 z20:=Tryz.sizeOf20
 v20:=Tryz.zeroValue20
 t21:=Tryz.underlying21
 a21:=Tryz.isAgg21
 z21:=Tryz.sizeOf21
 v21:=Tryz.zeroValue21
 t37:=Tryz.underlying27
 a37:=Tryz.isAgg27
 z37:=Tryz.sizeOf27
 v37:=Tryz.zeroValue27
 t46:=Tryz.underlying93
 a46:=Tryz.isAgg93
 z46:=Tryz.sizeOf93
 v46:=Tryz.zeroValue93
 t51:=Tryz.underlying229
 a51:=Tryz.isAgg229
 z51:=Tryz.sizeOf229
 v51:=Tryz.zeroValue229
 t70:=Tryz.underlying194
 a70:=Tryz.isAgg194
 z70:=Tryz.sizeOf194
 v70:=Tryz.zeroValue194
 t72:=Tryz.underlying196
 a72:=Tryz.isAgg196
 z72:=Tryz.sizeOf196
 v72:=Tryz.zeroValue196
 t75:=Tryz.underlying199
 a75:=Tryz.isAgg199
 z75:=Tryz.sizeOf199
 v75:=Tryz.zeroValue199
 t76:=Tryz.underlying200
 a76:=Tryz.isAgg200
 z76:=Tryz.sizeOf200
 v76:=Tryz.zeroValue200
 t105:=Tryz.underlying252
 a105:=Tryz.isAgg252
 z105:=Tryz.sizeOf252
 v105:=Tryz.zeroValue252
 t119:=Tryz.underlying261
 a119:=Tryz.isAgg261
 z119:=Tryz.sizeOf261
 t127:=Tryz.underlying235
 a127:=Tryz.isAgg235
 z127:=Tryz.sizeOf235
 v127:=Tryz.zeroValue235
 t138:=Tryz.underlying263
 a138:=Tryz.isAgg263
 z138:=Tryz.sizeOf263
 v138:=Tryz.zeroValue263
 t139:=Tryz.underlying264
 a139:=Tryz.isAgg264
 z139:=Tryz.sizeOf264
 v139:=Tryz.zeroValue264
 t146:=Tryz.underlying230
 a146:=Tryz.isAgg230
 z146:=Tryz.sizeOf230
 v146:=Tryz.zeroValue230
 t164:=Tryz.underlying250
 a164:=Tryz.isAgg250
 z164:=Tryz.sizeOf250
 v164:=Tryz.zeroValue250
 g1:=by kernel_rfl
 g3:=by kernel_rfl
 g4:=by kernel_rfl }
theorem Tryz.Builder_Extra_155:Builder.Extra Tryz.prog Tryz.lays155_ren:={
 sizeBuilder:=by kernel_rfl
 liesBuilder:=by kernel_rfl
 t5:=Tryz.underlying5
 a5:=Tryz.isAgg5
 z5:=Tryz.sizeOf5
 v5:=Tryz.zeroValue5
 infoByte:=by kernel_rfl
 cellsByte:=by kernel_rfl
 sizeByte:=by kernel_rfl
 neB5:=by decide }
open Go.RowKit Go.Lib in
theorem Tryz.strings_ReplaceAll (s old new:ByteArray) (m:Int) (w:World) (hs:s.size < 4294967281) (hm:w.cell? ⟨4,0,none⟩=some (.int .i64 m)) (h1:1≤old.size) (hlen:s.size+Lib.countB s old*new.size≤140737488355328) :
  Calls Tryz.prog 196 #[.string s,.string old,.string new] w fun e w' =>
   e=.returned (.string ⟨(Lib.replaceAll s.data.toList old.data.toList new.data.toList).toArray⟩)∧Below w.heap.size w w':=Any.strings_ReplaceAll Tryz.lays155 Tryz.Builder_Extra_155 s old new m w hs hm h1 hlen
end Go.Proofs
/- The library: TrimRight, Trim, Contains, Cut, ReplaceAll, HasPrefix, HasSuffix, bytes.Equal as contracts of this layer. -/
set_option maxHeartbeats 8000000
set_option maxRecDepth 100000
set_option linter.unusedVariables false
set_option linter.unusedSimpArgs false
namespace Tdoc
open Go Go.Proofs Go.RowKit
theorem funcOk {f:FuncId} {fn:Func} (h:Tryz.prog.funcs[f]?=some fn) (h1:(fn.name == "runtime.NumGoroutine")=false) (h2:fn.body.isNone=false):∃ fn,Tryz.prog.funcs[f]?=some fn∧(fn.name == "runtime.NumGoroutine")=false∧fn.body.isNone=false:=⟨fn,h,h1,h2⟩
theorem args2 {G:Gh} {x y:AV} {vals:Array Value} (h1:vals.size=[x,y].length) (h2:∀ (j:Nat) (z:AV) (v:Value),[x,y][j]?=some z→vals[j]?=some v→RepA G z v):∃ u v,vals = #[u,v]∧RepA G x u∧RepA G y v:=by
 obtain ⟨l⟩:=vals
 match l,h1 with
 | [u,v],_=>exact ⟨u,v,rfl,h2 0 _ _ rfl rfl,h2 1 _ _ rfl rfl⟩
theorem args3 {G:Gh} {x y z:AV} {vals:Array Value} (h1:vals.size=[x,y,z].length) (h2:∀ (j:Nat) (a:AV) (v:Value),[x,y,z][j]?=some a→vals[j]?=some v→RepA G a v):∃ u v s,vals = #[u,v,s]∧RepA G x u∧RepA G y v∧RepA G z s:=by
 obtain ⟨l⟩:=vals
 match l,h1 with
 | [u,v,s],_=>exact ⟨u,v,s,rfl,h2 0 _ _ rfl rfl,h2 1 _ _ rfl rfl,h2 2 _ _ rfl rfl⟩
theorem mk_size (s:List UInt8):(⟨s.toArray⟩:ByteArray).size=s.length:=by simp [ByteArray.size]
theorem TrimR_spec (s:List UInt8) (hs:s.length≤1000000):Spec Tryz.prog 223 [.d (.str s),.d (.str [60])] [] (fun r h'=>r=.d (.str (trimF s))∧h'=[]) :=
 Spec_lib (funcOk Tryz.func223 rfl rfl) rfl fun G w vals h1 h2 ht hi=>by
  obtain ⟨u,v,rfl,hu,hv⟩:=args2 h1 h2
  rw [hu.str_inv,hv.str_inv]
  refine (Tryz.strings_TrimRight_one ⟨s.toArray⟩ 60 (by decide) w (by rw [mk_size];omega)).mono ?_
  rintro e w' ⟨rfl,rfl⟩
  exact ⟨_,rfl,.d (.str _),Below.refl _ _⟩
theorem Trim60_spec (s:List UInt8) (hs:s.length≤1000000):Spec Tryz.prog 221 [.d (.str s),.d (.str [60])] [] (fun r h'=>r=.d (.str (Lib.trimB s 60))∧h'=[]) :=
 Spec_lib (funcOk Tryz.func221 rfl rfl) rfl fun G w vals h1 h2 ht hi=>by
  obtain ⟨u,v,rfl,hu,hv⟩:=args2 h1 h2
  rw [hu.str_inv,hv.str_inv]
  refine (Tryz.strings_Trim_one ⟨s.toArray⟩ 60 (by decide) w (by rw [mk_size];omega)).mono ?_
  rintro e w' ⟨rfl,hw⟩
  exact ⟨_,rfl,.d (.str _),by rcases hw with rfl | rfl <;> first | exact Below.refl _ _ | exact (Below.refl _ _).drew⟩
def upS:List UInt8:=[65,66,67,68,69,70,71,72,73,74,75,76,77,78,79,80,81,82,83,84,85,86,87,88,89,90]
theorem TrimUp_spec (s:List UInt8) (hs:s.length≤1000000):Spec Tryz.prog 221 [.d (.str s),.d (.str upS)] [] (fun r h'=>r=.d (.str (Lib.trimS s upS))∧h'=[]) :=
 Spec_lib (funcOk Tryz.func221 rfl rfl) rfl fun G w vals h1 h2 ht hi=>by
  obtain ⟨u,v,rfl,hu,hv⟩:=args2 h1 h2
  rw [hu.str_inv,hv.str_inv]
  refine (Any.strings_Trim_laid Tryz.lays160 (by kernel_rfl) ⟨s.toArray⟩ ⟨upS.toArray⟩ w (by rw [mk_size];omega) (by rw [mk_size];decide) (ascii_of_all (by decide))).mono ?_
  rintro e w' ⟨rfl,hb⟩
  exact ⟨_,rfl,.d (.str _),hb⟩
theorem Contains60_spec (s:List UInt8):Spec Tryz.prog 186 [.d (.str s),.d (.str [60])] [] (fun r h'=>r=.d (.bool (decide (0≤Lib.indexByte s 60)))∧h'=[]) :=
 Spec_lib (funcOk Tryz.func186 rfl rfl) rfl fun G w vals h1 h2 ht hi=>by
  obtain ⟨u,v,rfl,hu,hv⟩:=args2 h1 h2
  rw [hu.str_inv,hv.str_inv]
  refine (Tryz.strings_Contains_one ⟨s.toArray⟩ 60 w).mono ?_
  rintro e w' ⟨rfl,rfl⟩
  exact ⟨_,rfl,.d (.bool _),Below.refl _ _⟩
theorem HasPrefix_spec (s p:List UInt8):Spec Tryz.prog 191 [.d (.str s),.d (.str p)] [] (fun r h'=>r=.d (.bool (Lib.hasPrefix s p))∧h'=[]) :=
 Spec_lib (funcOk Tryz.func191 rfl rfl) rfl fun G w vals h1 h2 ht hi=>by
  obtain ⟨u,v,rfl,hu,hv⟩:=args2 h1 h2
  rw [hu.str_inv,hv.str_inv]
  refine (Tryz.strings_HasPrefix ⟨s.toArray⟩ ⟨p.toArray⟩ w).mono ?_
  rintro e w' ⟨rfl,rfl⟩
  exact ⟨_,rfl,.d (.bool _),Below.refl _ _⟩
theorem HasSuffix_spec (s p:List UInt8) (hs:s.length≤1000000):Spec Tryz.prog 241 [.d (.str s),.d (.str p)] [] (fun r h'=>r=.d (.bool (Lib.hasSuffix s p))∧h'=[]) :=
 Spec_lib (funcOk Tryz.func241 rfl rfl) rfl fun G w vals h1 h2 ht hi=>by
  obtain ⟨u,v,rfl,hu,hv⟩:=args2 h1 h2
  rw [hu.str_inv,hv.str_inv]
  refine (Tryz.strings_HasSuffix ⟨s.toArray⟩ ⟨p.toArray⟩ w (by rw [mk_size];omega)).mono ?_
  rintro e w' ⟨rfl,rfl⟩
  exact ⟨_,rfl,.d (.bool _),Below.refl _ _⟩
theorem Cut_spec (s sep:List UInt8) (hs:s.length≤1000000):Spec Tryz.prog 222 [.d (.str s),.d (.str sep)] [] (fun r h'=>r=.tup [.d (.str (Lib.cut s sep).1),.d (.str (Lib.cut s sep).2.1),.d (.bool (Lib.cut s sep).2.2)]∧h'=[]) :=
 Spec_lib (funcOk Tryz.func222 rfl rfl) rfl fun G w vals h1 h2 ht hi=>by
  obtain ⟨u,v,rfl,hu,hv⟩:=args2 h1 h2
  rw [hu.str_inv,hv.str_inv]
  obtain ⟨_,o,ho,m,t,f,rfl⟩:=ht.2 4 _ rfl
  refine (Tryz.strings_Cut ⟨s.toArray⟩ ⟨sep.toArray⟩ m w (by rw [mk_size];omega) (by simp [World.cell?,ho])).mono ?_
  rintro e w' ⟨rfl,n,rfl⟩
  refine ⟨_,rfl,.tup _ rfl fun j x y hx hy=>?_,Below_drew w n⟩
  match j,hx,hy with
  | 0,hx,hy=>simp at hx hy;subst hx;subst hy;exact .d (.str _)
  | 1,hx,hy=>simp at hx hy;subst hx;subst hy;exact .d (.str _)
  | 2,hx,hy=>simp at hx hy;subst hx;subst hy;exact .d (.bool _)
  | j+3,hx,hy=>simp at hx
theorem ReplaceSp_spec (s:List UInt8) (hs:s.length≤1000000):Spec Tryz.prog 196 [.d (.str s),.d (.str [60]),.d (.str [32])] [] (fun r h'=>r=.d (.str (spaceF s))∧h'=[]) :=
 Spec_lib (funcOk Tryz.func196 rfl rfl) rfl fun G w vals h1 h2 ht hi=>by
  obtain ⟨u,v,x,rfl,hu,hv,hx⟩:=args3 h1 h2
  rw [hu.str_inv,hv.str_inv,hx.str_inv]
  obtain ⟨_,o,ho,m,t,f,rfl⟩:=ht.2 4 _ rfl
  have hc:=Lib.count_le s [60]
  refine (Tryz.strings_ReplaceAll ⟨s.toArray⟩ ⟨#[60]⟩ ⟨#[32]⟩ m w (by rw [mk_size];omega) (by simp [World.cell?,ho]) (by decide) (by rw [mk_size];show s.length+Lib.count s [60]*1≤_;omega)).mono ?_
  rintro e w' ⟨rfl,hb⟩
  refine ⟨_,rfl,?_,hb⟩
  rw [← replace_space]
  exact .d (.str _)
theorem EqualB_spec (a b:List UInt8):Spec Tryz.prog 93 [.d (.sl 1 (encB a)),.d (.sl 1 (encB b))] [] (fun r h'=>r=.d (.bool (a == b))∧h'=[]):=by
 refine qAb hT Tryz.func93 rfl rfl rfl rfl ?_;intro E hE
 refine ww ?_
 refine qBn hT rfl rfl (qAv a) ?_
 refine ww ?_
 refine qBn hT rfl rfl (qAv b) ?_
 rw [qBc,qBc]
 refine ww ?_
 exact wwr
theorem all_of_drop {p:UInt8→Bool}:∀ {s:List UInt8},s.dropWhile p=[]↔s.all p=true
 | []=>by simp
 | c::l=>by
  rw [List.dropWhile_cons,List.all_cons]
  by_cases h:p c=true
  ·rw [if_pos h,h,all_of_drop (s:=l)];simp
  ·rw [if_neg h];simp at h;simp [h]
theorem all_rev (p:UInt8→Bool) (s:List UInt8):s.reverse.all p=s.all p:=by rw [List.all_reverse]
theorem trimB_nil {s:List UInt8}:Lib.trimB s 60=[]↔trimF s=[]:=by
 unfold Lib.trimB Lib.trimLeftB
 show List.dropWhile _ (trimF s)=[]↔_
 rw [all_of_drop]
 constructor
 ·intro h
  have hn:trimF s=[]∨∃ c,(trimF s).getLast?=some c∧c≠60:=by
   unfold trimF Lib.trimRightB
   rw [List.reverse_eq_nil_iff,List.getLast?_reverse]
   generalize s.reverse=t
   induction t with
   | nil=>exact .inl rfl
   | cons c l ih =>
    rw [List.dropWhile_cons]
    split
    ·exact ih
    ·rename_i hc;exact .inr ⟨c,rfl,by simpa using hc⟩
  rcases hn with hn | ⟨c,hc,hne⟩
  ·exact hn
  ·have:=List.all_eq_true.1 h c (List.mem_of_getLast? hc)
   exact absurd (by simpa using this) hne
 ·intro h;rw [h];rfl
theorem up_contains (c:UInt8):upS.contains c=isUp c:=by
 have h:∀ n,n < 256→upS.contains (UInt8.ofNat n)=isUp (UInt8.ofNat n):=by decide +kernel
 have:=h c.toNat (UInt8.toNat_lt c)
 rwa [UInt8.ofNat_toNat] at this
theorem trimS_nil {s:List UInt8}:(Lib.trimS s upS=[])↔s.all isUp=true:=by
 have hf:(fun c=>upS.contains c)=isUp:=funext up_contains
 unfold Lib.trimS Lib.trimLeftS Lib.trimRightS
 rw [hf,all_of_drop]
 constructor
 ·intro h
  have h2:(s.reverse.dropWhile isUp).all isUp=true:=by rw [← all_rev];exact h
  have h3:∀ t:List UInt8,(t.dropWhile isUp).all isUp=true→t.all isUp=true:=by
   intro t
   induction t with
   | nil=>intro _;rfl
   | cons c l ih =>
    intro h
    rw [List.dropWhile_cons] at h
    by_cases hc:isUp c=true
    ·rw [if_pos hc] at h;rw [List.all_cons,hc,ih h];rfl
    ·rw [if_neg hc] at h;exact h
  rw [← all_rev];exact h3 _ h2
 ·intro h
  have:s.reverse.dropWhile isUp=[]:=all_of_drop.2 (by rw [all_rev];exact h)
  rw [this];rfl
theorem index_in:∀ (s:List UInt8),decide (0≤Lib.indexByte s 60)=s.any (· == 60)
 | []=>by decide
 | c::l=>by
  have ih:=index_in l
  have hge:∀ l:List UInt8,-1≤Lib.indexByte l 60:=by
   intro l
   induction l with
   | nil=>decide
   | cons c l ih=>unfold Lib.indexByte;split;· omega
                  split <;> omega
  have hl:=hge l
  have hi:Lib.indexByte (c::l) 60=if c == 60 then 0 else if Lib.indexByte l 60 == -1 then -1 else Lib.indexByte l 60+1:=rfl
  rw [List.any_cons,← ih,hi]
  by_cases hc:(c == 60)=true
  ·rw [if_pos hc,hc];simp
  ·rw [if_neg hc]
   simp only [Bool.not_eq_true] at hc
   rw [hc]
   by_cases hm:Lib.indexByte l 60 = -1
   ·rw [if_pos (by simpa using hm),hm];rfl
   ·rw [if_neg (by simpa using hm),Bool.false_or]
    rw [Bool.eq_iff_iff];simp only [decide_eq_true_eq];omega
theorem prefix_one (s:List UInt8):Lib.hasPrefix s [60]=decide (s.head?=some 60):=by
 unfold Lib.hasPrefix
 cases s with
 | nil=>rfl
 | cons c l =>
  simp only [List.isPrefixOf,Bool.and_true,List.head?_cons,Option.some.injEq]
  by_cases h:c=60
  ·subst h;rfl
  ·rw [decide_eq_false h,beq_eq_false_iff_ne];exact fun e=>h e.symm
theorem suffix_one (s:List UInt8):Lib.hasSuffix s [60]=decide (s.getLast?=some 60):=by
 unfold Lib.hasSuffix List.isSuffixOf
 rw [show ([60]:List UInt8).reverse=[60] from rfl]
 have h:=prefix_one s.reverse
 unfold Lib.hasPrefix at h
 rw [h,List.head?_reverse]
end Tdoc
/- securityinfo.info, the walk. -/
set_option maxHeartbeats 8000000
set_option maxRecDepth 100000
set_option linter.unusedVariables false
set_option linter.unusedSimpArgs false
namespace Tdoc
open Go Go.Proofs
def intsG (o:List Int):List AV:=o.map fun z=>.d (.int .i64 z)
theorem numO_small {v:List UInt8} (h:v.length≤7):numO v=(((nbN v:Nat):Int),0):=by unfold numO;rw [if_neg (by omega)]
theorem fldsF_size (p:Int):∀ f,f∈fldsF p→f.2.1≤4∧f.2.2≤4∧1≤f.2.2:=by
 unfold fldsF
 split
 ·simp
 ·split
  ·simp
  ·simp
theorem store1E {P:Program} {E:Env} {T:Tr} {o:Oper} {ρ:Operand→AV} {h:List AObj} (hT:TOk P T) {t i off:Nat} {ti:TI} {x y:Operand} {cells:List AV} {vy:AV} (ho:o.op=.store t x y) (hx:ρ x=.ptr i off) (hyv:ρ y=vy) (hi:h[i]?=some (.row cells)) (hf:T.find t=some ti) (hsz:Nat.beq ti.size 1=true)
  (hs:scalarA vy=true) (hlt:off < cells.length):OpS P E o ρ h .any (h.set i (.row (cells.set off vy))):=by subst hyv;exact store1_ok hT ho hx hi hf hsz hs hlt
theorem lowL_intsG (k:Nat):∀ o:List Int,lowL k (intsG o)=true
 | []=>rfl
 | z::o=>lowL_intsG k o
theorem fldsF_len (p:Int):(fldsF p).length≤3:=by
 unfold fldsF
 split
 ·simp
 ·split
  ·simp
  ·simp
theorem infoP_spec {d:Nat} (x:Node) (hwf:WfN d x) (hw:wgtN x≤1000000):Spec Tryz.prog 162 [nAV x] [] (fun r h'=>∃ y:Inf×Bool,InfP x y∧r=.tup [.agg (fCells y.1),.d (.bool y.2)]∧h'=[]):=by
 obtain ⟨t,v,k⟩:=x
 rw [qCe]
 have n1:t≠48→infX (.mk t v k)=none:=fun h=>infX_n1 (by
  cases hc:consF (.mk t v k) 48 (-1) with
  | false=>rfl
  | true=>exact absurd (consF_iff.1 hc).1 h)
 have n2:=infX_n2 (x:=.mk t v k)
 have n3:∀ i r,k=i::r→tagN i≠6→infX (.mk t v k)=none:=fun i r hk h=>by
  match r,hk with
  | [],hk=>exact n2 (by rw [hk];simp [kidN])
  | w::r,hk=>exact infX_n3 (by rw [hk];rfl) (by
    cases hc:primF i 6 9 with
    | false=>rfl
    | true=>exact absurd (primF_iff.1 hc).1 h)
 have hkl:=qAh k
 have hlk:=qDe k
 have hkk:k.length≤1000000:=by rw [wgtN] at hw;omega
 simp only [kidN] at n2
 by_cases ht:t=48
 case neg =>
  have hn:(t != 48)=true:=by simpa using ht
  refine qAb hT Tryz.func162 rfl rfl rfl rfl ?_;intro E hE
  refine qAq ?_
  refine wwe ?_
  refine qAm (qAj ?_)
  refine qAe (qBb (i0:=0) rfl rfl rfl) rfl ?_
  refine wwk hn ?_
  refine qAa rfl (fun c1=>?_) (fun c1=>?_)
  ·refine ww ?_
   exact rq ⟨(inf0,false),.none (n1 ht),rfl,rfl⟩ rfl (.refl _)
  ·exact absurd c1 (by rw [hn];simp)
 by_cases hk2:k.length < 2
 case pos =>
  have hn:(t != 48||decide (((encNs k).length:Int) < 2))=true:=by rw [hkl];simp;right;omega
  refine qAb hT Tryz.func162 rfl rfl rfl rfl ?_;intro E hE
  refine qAq ?_
  refine wwe ?_
  refine qAm (qAj ?_)
  refine qAe (qBb (i0:=0) rfl rfl rfl) rfl ?_
  refine wwk hn ?_
  refine qAa rfl (fun c1=>?_) (fun c1=>?_)
  ·refine ww ?_
   exact rq ⟨(inf0,false),.none (n2 hk2),rfl,rfl⟩ rfl (.refl _)
  ·exact absurd c1 (by rw [hn];simp)
 obtain ⟨ti,vi,ki,l,rfl,hl0⟩:∃ ti vi ki l,k=.mk ti vi ki::l∧l≠[]:=match k,hk2 with
  | .mk ti vi ki::w::r,_=>⟨ti,vi,ki,w::r,rfl,by simp⟩
  | [_],h=>absurd (by simp) h
  | [],h=>absurd (by simp) h
 have n3:=n3 _ _ rfl
 simp only [tagN] at n3
 have hel0:(encNs (.mk ti vi ki::l))[((0:Int)).toNat]?=some [.int .i64 ti,.sl 1 (encB vi),.sl 3 (encNs ki)]:=rfl
 have hvi:vi.length≤1000000:=by simp only [wgtN,wgtL] at hw;omega
 have hwl:wgtL l≤1000000:=by simp only [wgtN,wgtL] at hw;omega
 have hll:=qAh l
 have hl1:l.length≤1000000:=by have:=qDe l;omega
 have hdr:cutL (encNs (.mk ti vi ki::l)) 1 ((encNs (.mk ti vi ki::l)).length:Int)=encNs l:=by
  unfold cutL
  rw [List.take_of_length_le (by simp)]
  rfl
 have hl2:1≤(encNs (.mk ti vi ki::l)).length:=by rw [hkl];simp
 have hok:ti=6→(protoF vi=0→infX (.mk t v (.mk ti vi ki::l))=none)∧(protoF vi≠0→InfR (.mk t v (.mk ti vi ki::l)) (infQ (protoF vi) l)):=fun h=>by
  subst ht
  exact infQ_ok hwf h hl0
 have hno:∀ {y:Option (List Int)},InfR (.mk t v (.mk ti vi ki::l)) y→y=none→infX (.mk t v (.mk ti vi ki::l))=none:=fun h1 h2=>by subst h2;exact h1
 generalize hxx:(Node.mk t v (.mk ti vi ki::l))=xx at n1 n3 hok hno hwf
 refine qAb hT Tryz.func162 rfl rfl rfl rfl ?_;intro E hE
 refine qAq ?_
 refine wwe ?_
 refine qAm (qAj ?_)
 refine qAe (qBb (i0:=0) rfl rfl rfl) rfl ?_
 refine ww ?_
 refine wwgi hel0 ?_
 refine ww ?_
 refine qAa rfl (fun c1=>?_) (fun c1=>?_)
 ·have hn:infX xx=none:=by
   by_cases h6:ti=6
   ·exfalso
    have:(decide (((encNs (.mk ti vi ki::l)).length:Int) < 2))=false:=by rw [hkl];simp at hk2 ⊢;omega
    rw [this,ht,h6] at c1
    exact absurd c1 (by simp)
   ·exact n3 h6
  refine ww ?_
  exact rq ⟨(inf0,false),.none hn,rfl,rfl⟩ rfl (.refl _)
 have c1':ti=6:=by
  simp only [Bool.or_eq_false_iff] at c1
  simpa using c1.2
 obtain ⟨hok0,hok1⟩:=hok c1'
 refine ww ?_
 refine qAn (ι:=Nat) (fun k=>[(1,.ptr 0 0),(2,.ptr 1 0),(4,.ptr 2 0),(5,.d (.int .i64 (2+(k:Int))))]) (fun k=>[.row [.d (.int .i64 t),.d (.sl 1 (encB v)),.d (.sl 3 (encNs (.mk ti vi ki::l)))],.row [.d (.int .i64 0),.d (.int .i64 0),.d (.int .i64 0),.d (.int .i64 0),.d (.int .i64 0)],.row [.d (.int .i64 (pU vi k)),.d (.int .i64 0),.d (.int .i64 0),.d (.int .i64 0),.d (.int .i64 0)]])
  (fun k=>k≤5) (fun k=>5-k) 0 (by omega) ⟨.refl _,.refl _,.refl _,.refl _,trivial⟩ (HLe.refl _) ?_
 intro k hk
 have hwp:IntKind.i64.wrap (2+(k:Int)+1)=2+((k+1:Nat):Int):=by rw [qAd (by omega)];omega
 refine ww ?_
 refine qAa rfl (fun c2=>?_) (fun c2=>?_)
 ·have c2':k < 5:=by simp at c2;omega
  have hid:=identifier_spec (2+(k:Int)) (by omega)
  have hSm:=EqualB_spec vi (idB (2+(k:Int)))
  have hpu:pU vi (k+1)=if vi=idB (2+(k:Int)) then 2+(k:Int) else pU vi k:=rfl
  generalize idB (2+(k:Int))=ib at hid hSm hpu
  refine ww ?_
  refine wwi hel0 ?_
  refine ww ?_
  refine wwc hid ?_
  refine ww ?_
  refine wwc hSm ?_
  refine ww ?_
  refine qAa rfl (fun c3=>?_) (fun c3=>?_)
  ·have c3':vi=ib:=by simpa using c3
   rw [if_pos c3'] at hpu
   refine ww ?_
   exact ⟨k+1,by omega,by omega,⟨.refl _,.refl _,.refl _,.int hwp,trivial⟩,by rw [hpu];exact HLe.refl _⟩
  ·have c3':¬ vi=ib:=by simpa using c3
   rw [if_neg c3'] at hpu
   refine ww ?_
   exact ⟨k+1,by omega,by omega,⟨.refl _,.refl _,.refl _,.int hwp,trivial⟩,by rw [hpu];exact HLe.refl _⟩
 have c2':k=5:=by simp at c2;omega
 subst c2'
 rw [pU_eq]
 have hvals:=protoF_vals vi
 generalize protoF vi=p at hok0 hok1 hvals
 clear hk c2 hel0
 have hM:=mapped_spec p
 have hfz:=fldsF_size p
 have hfl:=fldsF_len p
 refine wwe ?_
 refine qAq ?_
 refine qAq ?_
 refine qAq ?_
 refine ww ?_
 refine qAe (buildRowAt_ok (i0:=3) hT rfl rfl rfl) rfl ?_
 refine wws ?_
 refine qAr (ι:=Nat×Nat×AObj×AObj×AObj) (fun i=>[(1,.ptr 0 0),(2,.ptr 1 0),(4,.ptr 2 0),(6,.row i.1 0 (fldsF p).length i.2.1)])
  (fun i=>[.row [.d (.int .i64 t),.d (.sl 1 (encB v)),.d (.sl 3 (encNs (.mk ti vi ki::l)))],.row [.d (.int .i64 0),.d (.int .i64 0),.d (.int .i64 0),.d (.int .i64 0),.d (.int .i64 0)],.row [.d (.int .i64 p),.d (.int .i64 0),.d (.int .i64 0),.d (.int .i64 0),.d (.int .i64 0)],i.2.2.1,i.2.2.2.1,i.2.2.2.2])
  (fun i=>p≠0∧i.1 < 6∧lowH 6 [i.2.2.1,i.2.2.2.1,i.2.2.2.2]=true∧∀ X0 X1 X2:AObj,[X0,X1,X2,i.2.2.1,i.2.2.2.1,i.2.2.2.2][i.1]?=some (.row (flatF (fldsF p)))) ?_ ?_
 ·refine ww ?_
  refine qAa rfl (fun d0=>?_) (fun d0=>?_)
  ·have d0':p=0:=by simpa using d0
   have hn:=hok0 d0'
   refine ww ?_
   exact rq ⟨(inf0,false),.none hn,rfl,rfl⟩ rfl (.refl _)
  have d0':p≠0:=by simpa using d0
  refine ww ?_
  refine wwc hM ?_
  refine ww ?_
  refine qAa rfl (fun d2=>?_) (fun d2=>?_)
  ·have d2':p=2∨p=3:=by simpa using d2
   have hf:fldsF p=[(2,1,1),(2,1,2)]:=if_pos d2'
   rw [hf]
   refine ww ?_
   refine qAe (buildRowAt_ok (i0:=4) hT rfl rfl rfl) rfl ?_
   refine qAo (appRows_ok (i0:=5) (n:=1) (m:=1) hT rfl rfl rfl rfl rfl rfl rfl rfl rfl (by decide) (by decide) rfl) rfl ?_
   intro cap hcap
   refine ww ?_
   exact ⟨(5,cap,_,_,_),⟨d0',show 5 < 6 by decide,rfl,fun _ _ _=>rfl⟩,⟨.refl _,.refl _,.refl _,.refl _,trivial⟩,HLe.refl _⟩
  have d2':¬ (p=2∨p=3):=by simpa using d2
  refine ww ?_
  refine qAa rfl (fun d4=>?_) (fun d4=>?_)
  ·have d4':p=4:=by simpa using d4
   have hf:fldsF p=[(2,1,1),(4,4,3),(2,1,4)]:=by rw [d4'];rfl
   rw [hf]
   refine ww ?_
   refine qAe (buildRowAt_ok (i0:=4) hT rfl rfl rfl) rfl ?_
   refine qAo (appRows_ok (i0:=5) (n:=1) (m:=2) hT rfl rfl rfl rfl rfl rfl rfl rfl rfl (by decide) (by decide) rfl) rfl ?_
   intro cap hcap
   refine ww ?_
   exact ⟨(5,cap,_,_,_),⟨d0',show 5 < 6 by decide,rfl,fun _ _ _=>rfl⟩,⟨.refl _,.refl _,.refl _,.refl _,trivial⟩,HLe.refl _⟩
  have d4':p≠4:=by simpa using d4
  have hf:fldsF p=[(2,1,1)]:=by unfold fldsF;rw [if_neg d2',if_neg d4']
  rw [hf]
  refine ww ?_
  exact ⟨(3,1,_,_,_),⟨d0',show 3 < 6 by decide,rfl,fun _ _ _=>rfl⟩,⟨.refl _,.refl _,.refl _,.refl _,trivial⟩,HLe.refl _⟩
 rintro ⟨ob,cap,A,B,C⟩ ⟨hp0,hob,hlow,hform⟩
 simp only at hform hob hlow ⊢
 have hok1:=hok1 hp0
 unfold infQ at hok1
 refine ww ?_
 have hd1:(encNs (.mk ti vi ki::l)).drop ((1:Int)).toNat=encNs l:=rfl
 rw [hd1]
 refine qAa rfl (fun c5=>?_) (fun c5=>?_)
 ·have c5':l.length≠(fldsF p).length:=by rw [hll] at c5;intro hh;rw [hh] at c5;simp at c5
  rw [if_pos c5'] at hok1
  refine ww ?_
  exact rq ⟨(inf0,false),.none hok1,rfl,rfl⟩ rfl (.refl _)
 have c5':l.length=(fldsF p).length:=by rw [hll] at c5;simp at c5;omega
 rw [if_neg (by omega)] at hok1
 generalize fldsF p=fs at hform hok1 c5' hfz hfl
 generalize hfin:fldL fs l [p,0,0,0,0]=fin at hok1
 refine ww ?_
 refine qBg (ι:=Nat×List Int) (fun x=>[(2,.ptr 1 0),(4,.ptr 2 0),(7,.d (.sl 3 (encNs l))),(79,.row ob 0 fs.length cap),(80,.d (.int .i64 (fs.length:Int))),(81,.d (.int .i64 (x.1:Int)))])
  (fun x=>[.row [.d (.int .i64 t),.d (.sl 1 (encB v)),.d (.sl 3 (encNs (.mk ti vi ki::l)))],.row [.d (.int .i64 0),.d (.int .i64 0),.d (.int .i64 0),.d (.int .i64 0),.d (.int .i64 0)],.row (intsG x.2),A,B,C])
  (fun x=>x.1≤fs.length∧x.2.length=5∧fldL (fs.drop x.1) (l.drop x.1) x.2=fin) (fun x=>fs.length-x.1) (0,[p,0,0,0,0]) ⟨by simp,rfl,by simpa using hfin⟩ ⟨.refl _,.refl _,.refl _,.refl _,.refl _,.refl _,trivial⟩ (HLe.refl _) ?_
 rintro ⟨j,out⟩ ⟨hj,hol,hg⟩
 simp only at hj hol hg ⊢
 have hwj:IntKind.i64.wrap ((j:Int)+1)=((j+1:Nat):Int):=by rw [qAd (by omega)];simp
 refine ww ?_
 refine qAa rfl (fun c6=>?_) (fun c6=>?_)
 ·have c6':j < fs.length:=by simpa using c6
  have hjl:j < l.length:=by omega
  have hdl:l.drop j=l[j]::l.drop (j+1):=List.drop_eq_getElem_cons hjl
  have hdf:fs.drop j=fs[j]::fs.drop (j+1):=List.drop_eq_getElem_cons c6'
  rw [hdl,hdf,fldL] at hg
  have helx:(encNs l)[((j:Int)).toNat]?=some (encN l[j]):=by rw [Int.toNat_natCast];simp [qBv,hjl]
  have hfa:=flatF_at fs j c6'
  have hfj:=hfz fs[j] (List.getElem_mem c6')
  have hwx:=wgt_mem (List.getElem_mem hjl)
  have hlow3:j*3+3≤(flatF fs).length:=by rw [flatF_length];omega
  generalize l[j]=y at helx hg hwx
  generalize fs[j]=f at hg hfa hfj
  obtain ⟨tg,sz,pl⟩:=f
  obtain ⟨ty,vy,ky⟩:=y
  rw [encN] at helx
  replace hg:(if ty=tg∧((vy.length:Nat):Int)=sz then fldL (fs.drop (j+1)) (l.drop (j+1)) (out.set pl ((nbN vy:Nat):Int)) else none)=fin:=hg
  simp only at hfa hfj
  have hvl:=qAg vy
  refine ww ?_
  refine qAe (qAc (rowAddr_ok (sz:=3) hT rfl rfl rfl rfl (by omega))) rfl ?_
  refine qAe (load_ok hT rfl rfl (hform _ _ _) (loadA_agg rfl rfl (by show 0+j*3+3≤_;omega) hfa)) rfl ?_
  refine ww ?_
  refine wwi helx ?_
  refine ww ?_
  refine wwgi helx ?_
  refine ww ?_
  refine qAa rfl (fun c7=>?_) (fun c7=>?_)
  ·have c7':¬ (ty=tg∧((vy.length:Nat):Int)=sz):=by
    rintro ⟨e1,e2⟩
    rw [hvl,e1,e2] at c7
    simp at c7
   rw [if_neg c7'] at hg
   have hn:=hno hok1 hg.symm
   refine ww ?_
   exact rq ⟨(inf0,false),.none hn,rfl,rfl⟩ rfl (.refl _)
  have c7':ty=tg∧((vy.length:Nat):Int)=sz:=by
   simp only [Bool.or_eq_false_iff] at c7
   rw [hvl] at c7
   exact ⟨by simpa using c7.1,by simpa using c7.2⟩
  rw [if_pos c7'] at hg
  have hN:=NumberO_spec vy (by omega)
  rw [numO_small (by omega)] at hN
  have hpl:pl < (intsG out).length:=by simp [intsG,hol];omega
  refine wwn ?_
  refine qAz (fun i=>bif Nat.beq i 1 then [6] else bif Nat.beq i 12 then [2] else []) (fun i=>bif Nat.beq i 12 then [2] else []) mixed (by kernel_rfl) ?_
  refine wwg ?_
  refine qBl (qAi hT rfl rfl rfl rfl (by omega) helx) rfl rfl ?_
  refine wwg ?_
  refine wwdc hN ?_
  refine wwg ?_
  refine qBd (os:=[.row ((intsG out).set pl (.d (.int .i64 ((nbN vy:Nat):Int))))]) (fun k hk1 hk2=>store1E (vy:=.d (.int .i64 ((nbN vy:Nat):Int))) hT rfl rfl rfl ((hk2 2 List.mem_cons_self).trans rfl) rfl rfl rfl hpl) rfl ?_
  refine wwg ?_
  refine ww ?_
  exact ⟨(j+1,out.set pl ((nbN vy:Nat):Int)),[_],⟨c6',by simp [hol],hg⟩,by simp only;omega,⟨.refl _,.refl _,.refl _,.refl _,.refl _,.int hwj,trivial⟩,⟨ObLe.refl _,ObLe.refl _,by simp only [intsG,List.map_set];exact ObLe.refl _,ObLe.refl _,ObLe.refl _,ObLe.refl _,ObLe.refl _,trivial⟩,Env.below_mono hE (by simp),
   by simp [lowS,low,Nat.blt];omega,by simp only [lowH,lowO,lowL,low,lowL_intsG,Bool.true_and,Bool.and_eq_true] at hlow ⊢;simpa using hlow⟩
 ·have c6':j=fs.length:=by simp at c6;omega
  subst c6'
  rw [List.drop_length,fldL] at hg
  subst hg
  obtain ⟨a,b,c,d',e,rfl,hres⟩:=hok1
  refine ww ?_
  exact rq ⟨(⟨a,b,c,d',e⟩,true),.some hres,rfl,rfl⟩ rfl (.refl _)
end Tdoc
/- The program compares numbers: cmp.Compare, cmp.Or. -/
set_option maxHeartbeats 8000000
set_option maxRecDepth 100000
set_option linter.unusedVariables false
set_option linter.unusedSimpArgs false
namespace Tdoc
open Go Go.Proofs
def cmpI (a b:Int):Int:=if a < b then -1 else if a > b then 1 else 0
def orI (a b:Int):Int:=if a≠0 then a else b
theorem orI_infO (p x:Inf):decide (orI (cmpI p.proto x.proto) (cmpI p.kid x.kid)≥0)=infO p x:=by
 unfold orI cmpI infO
 rw [Bool.eq_iff_iff]
 simp only [decide_eq_true_eq]
 split <;> split <;> (try split) <;> (try split) <;> (try split) <;> omega
theorem isNaN_spec (a:Int):Spec Tryz.prog 252 [.d (.int .i64 a)] [] (fun r h'=>r=.d (.bool false)∧h'=[]):=by
 have h:(a != a)=false:=by simp
 refine qAb hT Tryz.func252 rfl rfl rfl rfl ?_;intro E hE
 refine ww ?_
 rw [h]
 exact wwr
theorem Compare_spec (a b:Int):Spec Tryz.prog 206 [.d (.int .i64 a),.d (.int .i64 b)] [] (fun r h'=>r=.d (.int .i64 (cmpI a b))∧h'=[]):=by
 have h1:=isNaN_spec a
 have h2:=isNaN_spec b
 unfold cmpI
 refine qAb hT Tryz.func206 rfl rfl rfl rfl ?_;intro E hE
 refine ww ?_
 refine wwc h1 ?_
 refine ww ?_
 refine wwc h2 ?_
 refine ww ?_
 refine qAa rfl (fun c1=>?_) (fun c1=>?_)
 ·exact absurd c1 (by simp)
 refine ww ?_
 refine qAa rfl (fun c2=>?_) (fun c2=>?_)
 ·exact absurd c2 (by simp)
 refine ww ?_
 refine qAa rfl (fun c3=>?_) (fun c3=>?_)
 ·rw [if_pos (by simpa using c3)]
  refine ww ?_
  exact wwr
 rw [if_neg (by simpa using c3)]
 refine ww ?_
 refine qAa rfl (fun c4=>?_) (fun c4=>?_)
 ·rw [if_pos (by simpa using c4)]
  refine ww ?_
  exact wwr
 rw [if_neg (by simpa using c4)]
 refine ww ?_
 exact wwr
theorem Or_spec (a b:Int):Spec Tryz.prog 205 [.d (.sl 1 (encI [a,b]))] [] (fun r h'=>r=.d (.int .i64 (orI a b))∧h'=[]):=by
 unfold orI
 generalize hfin:(if a≠0 then a else b)=fin
 have hlen:(encI [a,b]).length=2:=rfl
 refine qAb hT Tryz.func205 rfl rfl rfl rfl ?_;intro E hE
 refine ww ?_
 refine qAn (ι:=Nat) (fun i=>[(3,.d (.int .i64 0)),(6,.d (.sl 1 (encI [a,b]))),(7,.d (.int .i64 ((encI [a,b]).length:Int))),(8,.d (.int .i64 (i:Int)))]) (fun _=>[]) (fun i=>i≤2∧(1≤i→a=0)∧(2≤i→b=0)) (fun i=>2-i) 0 (by omega) ⟨.refl _,.refl _,.refl _,.refl _,trivial⟩ (HLe.refl _) ?_
 rintro i ⟨hi,ha,hb⟩
 have hwr:IntKind.i64.wrap ((i:Int)+1)=((i+1:Nat):Int):=by rw [qAd (by omega)];omega
 refine ww ?_
 refine qAa rfl (fun c1=>?_) (fun c1=>?_)
 ·have hlt:i < 2:=by rw [hlen] at c1;simp at c1;omega
  have hel:=encI_at (l:=[a,b]) (i:=i) hlt
  have hv:i=0∧([a,b]:List Int)[i]=a∨i=1∧([a,b]:List Int)[i]=b:=by
   match i,hlt with
   | 0,_=>exact .inl ⟨rfl,rfl⟩
   | 1,_=>exact .inr ⟨rfl,rfl⟩
  generalize ([a,b]:List Int)[i]=c at hel hv
  refine ww ?_
  refine wwi hel ?_
  refine ww ?_
  refine qAa rfl (fun c2=>?_) (fun c2=>?_)
  ·have hc:c=fin:=by
    have:c≠0:=by simpa using c2
    rw [← hfin]
    rcases hv with ⟨h0,h1⟩ | ⟨h0,h1⟩
    ·rw [if_pos (by omega)];exact h1
    ·rw [if_neg (by have:=ha (by omega);omega)];exact h1
   subst hc
   refine ww ?_
   exact wwr
  have hc:c=0:=by simpa using c2
  refine ww ?_
  exact ⟨i+1,⟨by omega,by omega,by omega⟩,by omega,⟨.refl _,.refl _,.refl _,.int hwr,trivial⟩,HLe.refl _⟩
 ·have hge:i=2:=by rw [hlen] at c1;simp at c1;omega
  have h0:fin=0:=by rw [← hfin];have:=ha (by omega);have:=hb (by omega);split <;> omega
  subst h0
  refine ww ?_
  exact wwr
end Tdoc
/- The program checks infos: securityinfo.Valid = validI. -/
set_option maxHeartbeats 8000000
set_option maxRecDepth 100000
set_option linter.unusedVariables false
set_option linter.unusedSimpArgs false
namespace Tdoc
open Go Go.Proofs
def prevO (l:List Inf) (i:Nat):Option Inf:=if i=0 then none else l[i-1]?
theorem ValidI_spec (l:List Inf) (hl:l.length≤1000000):Spec Tryz.prog 137 [.d (.sl 5 (encFs l))] [] (fun r h'=>r=.d (.int .i64 (validI l))∧h'=[]):=by
 have hll:=qCh l
 unfold validI
 by_cases h1:l.length > 16
 case pos =>
  rw [if_pos h1]
  refine qAb hT Tryz.func137 rfl rfl rfl rfl ?_;intro E hE
  refine ww ?_
  refine qAa rfl (fun c1=>?_) (fun c1=>?_)
  ·refine ww ?_
   exact wwr
  ·exfalso
   rw [hll] at c1
   simp at c1
   omega
 rw [if_neg h1]
 generalize hfin:infL none l=fin
 refine qAb hT Tryz.func137 rfl rfl rfl rfl ?_;intro E hE
 refine ww ?_
 refine qAa rfl (fun c1=>?_) (fun c1=>?_)
 ·exfalso
  rw [hll] at c1
  simp at c1
  omega
 refine ww ?_
 refine qBg (ι:=Nat) (fun i=>[(0,.d (.sl 5 (encFs l))),(9,.d (.sl 5 (encFs l))),(10,.d (.int .i64 ((encFs l).length:Int))),(11,.d (.int .i64 (i:Int)))]) (fun _=>[])
  (fun i=>i≤l.length∧infL (prevO l i) (l.drop i)=fin) (fun i=>l.length-i) 0 ⟨by omega,by simpa [prevO] using hfin⟩ ⟨.refl _,.refl _,.refl _,.refl _,trivial⟩ (HLe.refl _) ?_
 rintro i ⟨hi,hg⟩
 have hwr:IntKind.i64.wrap ((i:Int)+1)=((i+1:Nat):Int):=by rw [qAd (by omega)];simp
 refine ww ?_
 refine qAa rfl (fun c2=>?_) (fun c2=>?_)
 ·have c2':i < l.length:=by rw [hll] at c2;simpa using c2
  have hel:=encFs_at c2'
  have hdr:l.drop i=l[i]::l.drop (i+1):=List.drop_eq_getElem_cons c2'
  have hpv:prevO l (i+1)=some l[i]:=by unfold prevO;simp [c2']
  rw [hdr,infL_cons] at hg
  have hC:=checkI_spec l[i]
  generalize l[i]=x at hel hC hpv hg
  generalize he:infE x=ve at hC hg
  obtain ⟨x1,x2,x3,x4,x5⟩:=x
  unfold fCells at hC
  unfold encF at hel
  simp only at hC hel
  by_cases h0:i=0
  ·subst h0
   have hn:decide (((0:Nat):Int) > 0)=false:=rfl
   refine ww ?_
   refine wwi hel ?_
   refine ww ?_
   refine wwc hC ?_
   refine ww ?_
   refine qAa rfl (fun c3=>?_) (fun c3=>?_)
   ·rw [if_pos (by simpa using c3)] at hg
    subst hg
    refine ww ?_
    exact wwr
   rw [if_neg (by simpa using c3)] at hg
   refine wwk hn ?_
   refine qAa rfl (fun c4=>?_) (fun c4=>?_)
   ·exact absurd c4 (by simp)
   simp only [prevO,if_true] at hg
   rw [if_neg (by simp)] at hg
   refine ww ?_
   exact ⟨0+1,[_],⟨c2',by rw [hpv];exact hg⟩,by omega,⟨.refl _,.refl _,.refl _,.int hwr,trivial⟩,HLe.refl _,Env.below_mono hE (by simp),rfl,rfl⟩
  ·have hlt:i-1 < l.length:=by omega
   have help:(encFs l)[(IntKind.i64.wrap ((i:Int)-1)).toNat]?=some (encF l[i-1]):=by
    rw [qAd (by omega),show (i:Int)-1=((i-1:Nat):Int) by omega];exact encFs_at hlt
   have hp:prevO l i=some l[i-1]:=by unfold prevO;rw [if_neg h0];simp [hlt]
   have hn:decide ((i:Int) > 0)=true:=by simp;omega
   have hwi:IntKind.i64.wrap ((i:Int)-1)=(i:Int)-1:=qAd (by omega)
   rw [hp] at hg
   have hg:(if ve≠0 then ve else if infO l[i-1] ⟨x1,x2,x3,x4,x5⟩=true then 17 else infL (some ⟨x1,x2,x3,x4,x5⟩) (l.drop (i+1)))=fin:=hg
   have hio:=orI_infO l[i-1] ⟨x1,x2,x3,x4,x5⟩
   generalize infO l[i-1] ⟨x1,x2,x3,x4,x5⟩=io at hg hio
   generalize l[i-1]=p at help hio
   obtain ⟨p1,p2,p3,p4,p5⟩:=p
   simp only at hio
   unfold encF at help
   simp only at help
   have hc1:=Compare_spec p1 x1
   have hc2:=Compare_spec p5 x5
   have hor:=Or_spec (cmpI p1 x1) (cmpI p5 x5)
   generalize orI (cmpI p1 x1) (cmpI p5 x5)=ov at hor hio
   subst hio
   refine ww ?_
   refine wwi hel ?_
   refine ww ?_
   refine wwc hC ?_
   refine ww ?_
   refine qAa rfl (fun c3=>?_) (fun c3=>?_)
   ·rw [if_pos (by simpa using c3)] at hg
    subst hg
    refine ww ?_
    exact wwr
   rw [if_neg (by simpa using c3)] at hg
   refine ww ?_
   refine wwgi help ?_
   refine ww ?_
   refine wwgc hc1 ?_
   refine ww ?_
   refine wwgi help ?_
   refine ww ?_
   refine wwgc hc2 ?_
   refine ww ?_
   refine AWd_gop rfl rfl rfl rfl (fun hg=>⟨(sg (C:=True) hg).1,callS0L (args:=[.sl 1 [[Dat.int .i64 (cmpI p1 x1)],[Dat.int .i64 (cmpI p5 x5)]] .full]) rfl rfl hor rfl (by exact ⟨AV.le.dat,trivial⟩) rfl rfl⟩) ?_
   refine ww ?_
   refine qAa rfl (fun c4=>?_) (fun c4=>?_)
   ·have hov:decide (ov≥0)=true:=by rw [hn] at c4;simpa using c4
    rw [if_pos hov] at hg
    subst hg
    refine ww ?_
    exact wwr
   have hov:¬ decide (ov≥0)=true:=by rw [hn] at c4;simpa using c4
   rw [if_neg hov] at hg
   refine ww ?_
   exact ⟨i+1,[_],⟨c2',by rw [hpv];exact hg⟩,by omega,⟨.refl _,.refl _,.refl _,.int hwr,trivial⟩,HLe.refl _,Env.below_mono hE (by simp),rfl,rfl⟩
 ·have c2':i=l.length:=by rw [hll] at c2;simp at c2;omega
  subst c2'
  rw [List.drop_length,infL_nil] at hg
  subst hg
  refine ww ?_
  exact wwr
end Tdoc
/- securityinfo.Decode = decI. -/
set_option maxHeartbeats 8000000
set_option maxRecDepth 100000
set_option linter.unusedVariables false
set_option linter.unusedSimpArgs false
namespace Tdoc
open Go Go.Proofs
theorem DecodeP_spec (b:List UInt8) (hb:b.length≤9223372036854775807):Spec Tryz.prog 95 [.d (.sl 1 (encB b))] []
  (fun r h'=>r=.tup [.d (.sl 5 (encFs (decI b).1)),.d (.int .i64 (decI b).2)]∧h'=[]):=by
 have hps:=Parse_spec b true (by omega)
 have hgd:(parseX b true).2=0→(∀ x,x∈(parseX b true).1→WfN 1 x)∧wgtL (parseX b true).1≤1000000:=fun h=>by
  have hg:=qDj h
  refine ⟨?_,by omega⟩
  have hc:=hg.2.1
  generalize (parseX b true).1=l at hc
  intro x hx
  revert hc
  induction l with
  | nil=>cases hx
  | cons a l ih =>
   intro hc
   have hi:=chkL_inv hc
   rcases List.mem_cons.1 hx with h | h
   ·subst h;exact hi.1
   ·exact ih h hi.2
 rw [decI_eq]
 generalize parseX b true=q at hps hgd
 obtain ⟨l,e⟩:=q
 simp only at hps hgd ⊢
 by_cases h1:e=0
 case neg =>
  rw [if_pos h1]
  refine qAb hT Tryz.func95 rfl rfl rfl rfl ?_;intro E hE
  refine ww ?_
  refine wwc hps ?_
  refine ww ?_
  refine qAa rfl (fun c1=>?_) (fun c1=>?_)
  ·refine ww ?_
   exact wwr
  ·exact absurd (by simpa using c1) h1
 rw [if_neg (by omega)]
 obtain ⟨hwf,hwg⟩:=hgd h1
 subst h1
 have hlen:=qAh l
 by_cases h2:l.length=1
 case neg =>
  rw [decIL_many h2]
  have hn:(((encNs l).length:Int) != 1)=true:=by rw [hlen];simp;omega
  refine qAb hT Tryz.func95 rfl rfl rfl rfl ?_;intro E hE
  refine ww ?_
  refine wwc hps ?_
  refine ww ?_
  refine qAa rfl (fun c1=>?_) (fun c1=>?_)
  ·exact absurd c1 (by simp)
  refine wwk hn ?_
  refine qAa rfl (fun c2=>?_) (fun c2=>?_)
  ·refine ww ?_
   exact wwr
  ·rw [hn] at c2
   exact absurd c2 (by simp)
 obtain ⟨t,v,k,rfl⟩:∃ t v k,l=[.mk t v k]:=match l,h2 with
  | [.mk t v k],_=>⟨t,v,k,rfl⟩
 have hel:(encNs [.mk t v k])[((0:Int)).toNat]?=some [.int .i64 t,.sl 1 (encB v),.sl 3 (encNs k)]:=rfl
 have hn1:(((encNs [.mk t v k]).length:Int) != 1)=false:=rfl
 have hwk:wgtL k≤1000000:=by have h:=hwg;rw [wgtL,wgtN] at h;omega
 have hkl:=qAh k
 have hkw:=qDe k
 have hwx:=hwf (.mk t v k) (by simp)
 have hcv:consF (.mk t v k) 49 (-1)=decide (t=49):=by
  by_cases ht:t=49
  ·subst ht
   rw [decide_eq_true rfl]
   exact consF_iff.2 ⟨rfl,hwx.cons rfl,.inl (by decide)⟩
  ·rw [decide_eq_false ht]
   cases hc:consF (.mk t v k) 49 (-1) with
   | false=>rfl
   | true=>exact absurd (consF_iff.1 hc).1 ht
 unfold decIL
 simp only [kidN]
 rw [hcv]
 by_cases ht:t=49
 case neg =>
  rw [if_neg (by simpa using ht)]
  refine qAb hT Tryz.func95 rfl rfl rfl rfl ?_;intro E hE
  refine ww ?_
  refine wwc hps ?_
  refine ww ?_
  refine qAa rfl (fun c1=>?_) (fun c1=>?_)
  ·exact absurd c1 (by simp)
  refine ww ?_
  refine wwgi hel ?_
  refine ww ?_
  refine qAa rfl (fun c2=>?_) (fun c2=>?_)
  ·refine ww ?_
   exact wwr
  ·exact absurd c2 (by rw [hn1];simpa using ht)
 rw [if_pos (by simpa using ht)]
 generalize hfin:contI [] k=fin
 refine qAb hT Tryz.func95 rfl rfl rfl rfl ?_;intro E hE
 refine ww ?_
 refine wwc hps ?_
 refine ww ?_
 refine qAa rfl (fun c1=>?_) (fun c1=>?_)
 ·exact absurd c1 (by simp)
 refine ww ?_
 refine wwgi hel ?_
 refine ww ?_
 refine qAa rfl (fun c2=>?_) (fun c2=>?_)
 ·exact absurd c2 (by rw [hn1];simpa using ht)
 refine qAq ?_
 refine wwe ?_
 refine qAm (qAj ?_)
 refine wws ?_
 refine qAt 6 5 0 (es:=[]) (.inr ⟨rfl,rfl⟩) rfl ?_
 refine ww ?_
 refine wwi hel ?_
 refine ww ?_
 refine qBg (ι:=Nat×List Inf) (fun x=>[(33,.d (.sl 3 (encNs k))),(34,.d (.int .i64 ((encNs k).length:Int))),(6,.sl 5 (encFs x.2) (.right 0)),(35,.d (.int .i64 (x.1:Int)))]) (fun x=>[.right 5 (encFs x.2).length])
  (fun x=>x.1≤k.length∧x.2.length=x.1∧contI x.2 (k.drop x.1)=fin) (fun x=>k.length-x.1) (0,[]) ⟨by simp,rfl,by simpa using hfin⟩ ⟨.refl _,.refl _,.refl _,.refl _,trivial⟩ (HLe.refl _) ?_
 rintro ⟨i,out⟩ ⟨hi,hol,hg⟩
 simp only at hi hol hg ⊢
 have hel2:=qCh out
 have hwr:IntKind.i64.wrap ((i:Int)+1)=((i+1:Nat):Int):=by rw [qAd (by omega)];omega
 refine ww ?_
 refine qAa rfl (fun c3=>?_) (fun c3=>?_)
 ·have c3':i < k.length:=by rw [hkl] at c3;simpa using c3
  have helx:(encNs k)[((i:Int)).toNat]?=some (encN k[i]):=by rw [Int.toNat_natCast];simp [qBv,c3']
  have hdr:k.drop i=k[i]::k.drop (i+1):=List.drop_eq_getElem_cons c3'
  have hwy:=wgt_mem (List.getElem_mem c3')
  rw [hdr] at hg
  have hI:=infoP_spec k[i] (hwx.kids _ (List.getElem_mem c3')) (by omega)
  generalize k[i]=x at helx hg hI
  obtain ⟨tx,vx,kx⟩:=x
  rw [encN] at helx
  rw [qCe] at hI
  refine ww ?_
  refine wwi helx ?_
  refine ww ?_
  refine wwx hI ?_
  rintro ⟨y,ok⟩ hy
  obtain ⟨y1,y2,y3,y4,y5⟩:=y
  unfold fCells
  simp only
  refine ww ?_
  refine qAa rfl (fun c4=>?_) (fun c4=>?_)
  ·have hn:ok=false:=by simpa using c4
   subst hn
   rw [contI_none (InfP_no hy)] at hg
   subst hg
   refine ww ?_
   exact wwr
  have hn:ok=true:=by simpa using c4
  subst hn
  rw [contI_some (InfP_ok hy)] at hg
  have hres:encFs (out++[⟨y1,y2,y3,y4,y5⟩])=encFs out++[[Dat.int .i64 y1,.int .i64 y2,.int .i64 y3,.int .i64 y4,.int .i64 y5]]:=by rw [encFs_append];rfl
  refine ww ?_
  refine qAe (qAk (i:=0) hT rfl rfl rfl rfl rfl rfl (by show ((encFs out).length+1)*(40+1)≤_;first | omega | (simp only [qAg,qAh,List.length_append,List.length_cons,List.length_nil];omega))) rfl ?_
  refine ww ?_
  exact ⟨(i+1,out++[⟨y1,y2,y3,y4,y5⟩]),[_,_],⟨c3',by rw [List.length_append,List.length_singleton,hol],hg⟩,by simp only;omega,⟨.refl _,.refl _,AV.le.eq (by rw [hres];rfl),.int hwr,trivial⟩,⟨⟨rfl,by rw [hres]⟩,ObLe.refl _,ObLe.refl _,trivial⟩,Env.below_mono hE (by simp),rfl,rfl⟩
 ·have c3':i=k.length:=by rw [hkl] at c3;simp at c3;omega
  subst c3'
  rw [List.drop_length,contI_nil] at hg
  have hV:=ValidI_spec out (by omega)
  unfold finI at hg
  generalize validI out=we at hV hg
  refine wwe ?_
  refine AW_subL (l:=[(6,.d (.sl 5 (encFs out)))]) (h':=[.right 5 (encFs out).length]) ⟨AV.le.dat,trivial⟩ (HLe.refl _) ?_
  refine ww ?_
  refine wwc hV ?_
  refine ww ?_
  refine qAa rfl (fun c5=>?_) (fun c5=>?_)
  ·have c5':we≠0:=by simpa using c5
   rw [if_pos c5'] at hg
   subst hg
   refine ww ?_
   exact wwr
  have c5':¬ we≠0:=by simpa using c5
  rw [if_neg c5'] at hg
  subst hg
  refine ww ?_
  exact wwr
theorem OpenInf_spec (b:List UInt8) (hb:b.length≤9223372036854775807):Spec Tryz.prog 41 [.d (.sl 1 (encB b))] [] (fun r h'=>r=.tup [.d (.sl 5 (encFs (infoO b).1)),.d (.int .i64 (infoO b).2)]∧h'=[]) :=
 OpenInf_walk b hb fun v hv=>DecodeP_spec v (by omega)
end Tdoc
/- The program's characters and names: optical.Value, Valid, words, Name. -/
set_option maxHeartbeats 8000000
set_option maxRecDepth 100000
set_option linter.unusedVariables false
set_option linter.unusedSimpArgs false
namespace Tdoc
open Go Go.Proofs
theorem letterP_spec (n:Int):Spec Tryz.prog 224 [.d (.int .u8 n)] [] (fun r h'=>r=.d (.bool (decide (n≥65)&&decide (n≤90)))∧h'=[]):=by
 refine qAb hT Tryz.func224 rfl rfl rfl rfl ?_;intro E hE
 refine ww ?_
 exact wwr
theorem ValueP_spec (n:Int) (hn:0≤n∧n < 256):Spec Tryz.prog 220 [.d (.int .u8 n)] [] (fun r h'=>r=.d (.int .i64 (valC n))∧h'=[]):=by
 have hl:=letterP_spec n
 unfold valC
 refine qAb hT Tryz.func220 rfl rfl rfl rfl ?_;intro E hE
 refine ww ?_
 refine qAa rfl (fun h1=>?_) (fun h1=>?_)
 ·have h1':48≤n∧n≤57:=by simpa using h1
  rw [if_pos h1']
  have hw:IntKind.i64.wrap (IntKind.u8.wrap (n-48))=n-48:=by rw [wrapu8 (by omega),qAd (by omega)]
  refine ww ?_
  exact wwr
 ·have h1':¬ (48≤n∧n≤57):=by simpa using h1
  rw [if_neg h1']
  refine ww ?_
  refine wwc hl ?_
  refine ww ?_
  refine qAa rfl (fun h2=>?_) (fun h2=>?_)
  ·have h2':65≤n∧n≤90:=by simpa using h2
   rw [if_pos h2']
   have hw:IntKind.i64.wrap (IntKind.i64.wrap (IntKind.u8.wrap (n-65))+10)=n-55:=by rw [wrapu8 (by omega),qAd (n:=n-65) (by omega),qAd (by omega)];omega
   refine ww ?_
   exact wwr
  ·have h2':¬ (65≤n∧n≤90):=by simpa using h2
   rw [if_neg h2']
   refine ww ?_
   refine qAa rfl (fun h3=>?_) (fun h3=>?_)
   ·have h3':n=60:=by simpa using h3
    rw [if_pos h3']
    refine ww ?_
    exact wwr
   ·have h3':¬ n=60:=by simpa using h3
    rw [if_neg h3']
    refine ww ?_
    exact wwr
theorem ValidP_spec (s:List UInt8) (hs:s.length≤1000000):Spec Tryz.prog 152 [.d (.str s)] [] (fun r h'=>r=.d (.bool (validS s))∧h'=[]):=by
 generalize hfin:validS s=fin
 refine qAb hT Tryz.func152 rfl rfl rfl rfl ?_;intro E hE
 refine ww ?_
 refine qAn (ι:=Nat) (fun i=>[(0,.d (.str s)),(5,.d (.int .i64 (s.length:Int))),(6,.d (.int .i64 (i:Int)))]) (fun _=>[]) (fun i=>i≤s.length∧validS (s.drop i)=fin) (fun i=>s.length-i) 0 ⟨by omega,by simpa using hfin⟩ ⟨.refl _,.refl _,.refl _,trivial⟩ (HLe.refl _) ?_
 rintro i ⟨hi,hg⟩
 have hwr:IntKind.i64.wrap ((i:Int)+1)=((i+1:Nat):Int):=by rw [qAd (by omega)];simp
 refine ww ?_
 refine qAa rfl (fun h1=>?_) (fun h1=>?_)
 ·have h1':i < s.length:=by simpa using h1
  have hsa:=qBu h1'
  rw [qCl h1',validS] at hg
  have hr:=bI_range s[i]
  generalize s[i]=c at hsa hg hr
  have hv:=ValueP_spec (strAt s (i:Int)) (by rw [hsa];exact hr)
  rw [hsa] at hv
  rw [← hsa] at hv
  refine ww ?_
  refine wwc hv ?_
  refine ww ?_
  refine qAa rfl (fun h2=>?_) (fun h2=>?_)
  ·have h2':¬ 0≤valC (bI c):=by rw [hsa] at h2;simp at h2;omega
   rw [decide_eq_false h2',Bool.false_and] at hg
   subst hg
   refine ww ?_
   exact wwr
  ·have h2':0≤valC (bI c):=by rw [hsa] at h2;simp at h2;omega
   rw [decide_eq_true h2',Bool.true_and] at hg
   refine ww ?_
   exact ⟨i+1,⟨h1',hg⟩,by omega,⟨.refl _,.refl _,.int hwr,trivial⟩,HLe.refl _⟩
 ·have h1':i=s.length:=by simp at h1;omega
  subst h1'
  rw [List.drop_length] at hg
  subst hg
  refine ww ?_
  exact wwr
theorem words_step {x:UInt8} {s:List UInt8} {i:Nat} (h:i < s.length) (hs:s.length≤1000000) (hx:isUp x=false):wordsB x (decide (i=0)||decide (s[i-1]?=some x)) (s.drop i) =
  (!(!(decide (strAt s (i:Int)≥65)&&decide (strAt s (i:Int)≤90))&&(strAt s (i:Int) != bI x||!(decide ((i:Int) > 0)&&decide ((i:Int) < IntKind.i64.wrap ((s.length:Int)-1))&&(strAt s (IntKind.i64.wrap ((i:Int)-1)) != bI x)))) &&
   wordsB x (decide (i+1=0)||decide (s[i+1-1]?=some x)) (s.drop (i+1))):=by
 have hsa:=qBu h
 have hsi:s[i+1-1]?=some s[i]:=by simp [h]
 have hwl:IntKind.i64.wrap ((s.length:Int)-1)=((s.length-1:Nat):Int):=by rw [qAd (by omega)];omega
 have hp:i≠0→(strAt s (IntKind.i64.wrap ((i:Int)-1)) != bI x)=!decide (s[i-1]?=some x):=fun h0=>by
  rw [qAd (by omega),show (i:Int)-1=((i-1:Nat):Int) by omega,qBu (by omega),List.getElem?_eq_getElem (by omega:i-1 < s.length)]
  generalize s[i-1]'(by omega)=c
  have hc:bI c=bI x↔c=x:=byte_eq (c:=c) (d:=x)
  by_cases h1:c=x
  ·simp [h1]
  ·have:=mt hc.1 h1
   simp [h1,this]
 have he:decide ((i:Int) < ((s.length-1:Nat):Int))=!(s.drop (i+1)).isEmpty:=by
  by_cases h1:i+1=s.length
  ·rw [decide_eq_false (by omega)]
   have:s.drop (i+1)=[]:=List.drop_eq_nil_of_le (by omega)
   rw [this];rfl
  ·rw [decide_eq_true (by omega)]
   cases hd:s.drop (i+1) with
   | nil=>have:=congrArg List.length hd;simp at this;omega
   | cons a l=>rfl
 rw [qCl h,wordsB,hwl,hsa,hsi,he]
 generalize s[i]=c at *
 have hc:bI c=bI x↔c=x:=byte_eq (c:=c) (d:=x)
 have hup:(decide (bI c≥65)&&decide (bI c≤90))=isUp c:=by
  unfold isUp
  rw [Bool.eq_iff_iff];simp
 have hn0:decide (i+1=0)=false:=by simp
 have hcx:decide (some c=some x)=decide (c=x):=by simp
 rw [hn0,Bool.false_or,hup,hcx]
 by_cases h1:c=x
 ·subst h1
  rw [if_pos rfl,hx,decide_eq_true rfl]
  have e1:(bI c != bI c)=false:=by simp
  rw [e1]
  by_cases h0:i=0
  ·subst h0
   simp
  ·rw [hp h0]
   have hd:decide (i=0)=false:=decide_eq_false h0
   have hd2:decide ((i:Int) > 0)=true:=decide_eq_true (by omega)
   rw [hd,hd2]
   generalize decide (s[i-1]?=some c)=a
   generalize (s.drop (i+1)).isEmpty=b
   generalize wordsB c true (s.drop (i+1))=d
   revert a b d;decide
 ·have e1:(bI c != bI x)=true:=by simpa using mt hc.1 h1
  rw [if_neg h1,e1,decide_eq_false h1]
  cases isUp c <;> simp
theorem words_spec (s:List UInt8) (x:UInt8) (hs:s.length≤1000000) (hx:isUp x=false):Spec Tryz.prog 225 [.d (.str s),.d (.int .u8 (bI x))] [] (fun r h'=>r=.d (.bool (wordsB x true s))∧h'=[]):=by
 generalize hfin:wordsB x true s=fin
 refine qAb hT Tryz.func225 rfl rfl rfl rfl ?_;intro E hE
 refine ww ?_
 refine qAn (ι:=Nat) (fun i=>[(0,.d (.str s)),(1,.d (.int .u8 (bI x))),(8,.d (.int .i64 (s.length:Int))),(9,.d (.int .i64 (i:Int)))]) (fun _=>[]) (fun i=>i≤s.length∧wordsB x (decide (i=0)||decide (s[i-1]?=some x)) (s.drop i)=fin) (fun i=>s.length-i) 0 ⟨by omega,by simpa using hfin⟩ ⟨.refl _,.refl _,.refl _,.refl _,trivial⟩ (HLe.refl _) ?_
 rintro i ⟨hi,hg⟩
 have hwr:IntKind.i64.wrap ((i:Int)+1)=((i+1:Nat):Int):=by rw [qAd (by omega)];simp
 refine ww ?_
 refine qAa rfl (fun h1=>?_) (fun h1=>?_)
 ·have h1':i < s.length:=by simpa using h1
  have hst:=words_step h1' hs hx
  rw [hst] at hg
  have hl:=letterP_spec (strAt s (i:Int))
  have hwi:(i:Int) > 0→IntKind.i64.wrap ((i:Int)-1)=(i:Int)-1:=fun _=>qAd (by omega)
  refine ww ?_
  refine wwc hl ?_
  refine ww ?_
  refine qAa rfl (fun h2=>?_) (fun h2=>?_)
  ·rw [h2] at hg
   simp only [Bool.not_true,Bool.false_and] at hg
   subst hg
   refine ww ?_
   exact wwr
  ·rw [h2] at hg
   simp only [Bool.not_false,Bool.true_and] at hg
   refine ww ?_
   exact ⟨i+1,⟨h1',hg⟩,by omega,⟨.refl _,.refl _,.refl _,.int hwr,trivial⟩,HLe.refl _⟩
 ·have h1':i=s.length:=by simp at h1;omega
  subst h1'
  rw [List.drop_length] at hg
  subst hg
  refine ww ?_
  exact wwr
theorem NameP_spec (s:List UInt8) (hs:s.length≤1000000):Spec Tryz.prog 185 [.d (.str s)] [] (fun r h'=>r=.d (.bool (nameL true s))∧h'=[]):=by
 have hw:=words_spec s 32 hs rfl
 rw [wordsB_name] at hw
 refine qAb hT Tryz.func185 rfl rfl rfl rfl ?_;intro E hE
 refine ww ?_
 refine wwc hw ?_
 refine ww ?_
 exact wwr
end Tdoc
/- The reference reads a day. -/
set_option maxHeartbeats 8000000
set_option maxRecDepth 100000
set_option linter.unusedVariables false
set_option linter.unusedSimpArgs false
namespace Tdoc
open Go Go.Proofs
def digD (s:List UInt8) (k:Nat):Int:=bI (s.getD k 0)-48
def pN (s:List UInt8) (a i:Nat):Int:=if i≤a then 0 else if i=a+1 then digD s a else 10*digD s a+digD s (a+1)
theorem qBm (c:UInt8):isDig c=true↔48≤bI c∧bI c≤57:=by simp [isDig]
theorem dayParse_spec (s:List UInt8) (first:Int) (hs:s.length≤1000000):Spec Tryz.prog 170 [.d (.str s),.d (.int .i64 first)] [] (fun r h'=>r=.tup [.d (.int .i64 (dayParse s first).1),.d (.int .i64 (dayParse s first).2)]∧h'=[]):=by
 unfold dayParse
 refine qAb hT Tryz.func170 rfl rfl rfl rfl ?_;intro E hE
 refine ww ?_
 refine qAa rfl (fun c1=>?_) (fun c1=>?_)
 ·have c1':first < 1900∨first > 2000:=by simpa using c1
  rw [if_pos c1']
  refine ww ?_
  exact wwr
 have c1':¬ (first < 1900∨first > 2000):=by simpa using c1
 rw [if_neg c1']
 refine ww ?_
 refine qAa rfl (fun c2=>?_) (fun c2=>?_)
 ·have c2':s.length≠6:=by simp at c2;omega
  rw [if_pos c2']
  refine ww ?_
  exact wwr
 have c2':¬ s.length≠6:=by simp at c2;omega
 have hlen:s.length=6:=by omega
 rw [if_neg c2']
 refine ww ?_
 refine qAn (ι:=Nat) (fun i=>[(0,.d (.str s)),(1,.d (.int .i64 first)),(6,.ptr 0 0),(7,.d (.int .i64 (i:Int)))]) (fun i=>[.row [.d (.int .i64 (pN s 0 i)),.d (.int .i64 (pN s 2 i)),.d (.int .i64 (pN s 4 i))]]) (fun i=>i≤6∧∀ k,k < i→isDig (s.getD k 0)=true) (fun i=>6-i) 0 ⟨by omega,fun k hk=>by omega⟩ ⟨.refl _,.refl _,.refl _,.refl _,trivial⟩ (HLe.refl _) ?_
 rintro i ⟨hi,hd⟩
 have hwr:IntKind.i64.wrap ((i:Int)+1)=((i+1:Nat):Int):=by rw [qAd (by omega)];simp
 have hall:(∀ k,k < 6→isDig (s.getD k 0)=true)→s.all isDig=true:=fun h=>by
  rw [List.all_eq_true]
  intro c hc
  obtain ⟨k,hk,rfl⟩:=List.getElem_of_mem hc
  have:=h k (by omega)
  rw [List.getD_eq_getElem?_getD,List.getElem?_eq_getElem hk] at this
  exact this
 have hdr:∀ k,k < i→0≤digD s k∧digD s k≤9:=fun k hk=>by have:=(qBm _).1 (hd k hk);unfold digD;omega
 refine ww ?_
 refine qAa rfl (fun c3=>?_) (fun c3=>?_)
 ·have c3':i < 6:=by simp at c3;omega
  have hsa:strAt s (i:Int)=bI (s.getD i 0):=by unfold strAt bI;rw [List.getD_eq_getElem?_getD,Int.toNat_natCast]
  have hbr:=bI_range (s.getD i 0)
  refine ww ?_
  refine qAa rfl (fun c4=>?_) (fun c4=>?_)
  ·have c4':s.all isDig=false:=by
    rw [hsa] at c4
    have hn:isDig (s.getD i 0)=false:=by
     cases hx:isDig (s.getD i 0) with
     | false=>rfl
     | true=>have:=(qBm _).1 hx;simp only [Bool.or_eq_true,decide_eq_true_eq] at c4;omega
    cases hx:s.all isDig with
    | false=>rfl
    | true =>
     rw [List.all_eq_true] at hx
     have:=hx (s.getD i 0) (by rw [List.getD_eq_getElem?_getD,List.getElem?_eq_getElem (by omega)];exact List.getElem_mem _)
     rw [hn] at this;cases this
   rw [if_pos c4']
   refine ww ?_
   exact wwr
  ·have c4':isDig (s.getD i 0)=true:=by rw [hsa] at c4;exact (qBm _).2 (by simp only [Bool.or_eq_false_iff,decide_eq_false_iff_not] at c4;omega)
   have hdi:=(qBm _).1 c4'
   have hX:∀ p:Int,0≤p∧p≤9→IntKind.i64.wrap (IntKind.i64.wrap (10*p)+IntKind.i64.wrap (IntKind.u8.wrap (strAt s (i:Int)-48)))=10*p+digD s i:=fun p hp=>by
    rw [hsa,wrapu8 (by omega),qAd (n:=10*p) (by omega),qAd (n:=bI (s.getD i 0)-48) (by omega),qAd (by unfold digD at *;omega)];rfl
   have hd':∀ k,k < i+1→isDig (s.getD k 0)=true:=fun k hk=>by
    by_cases h:k=i
    ·rw [h];exact c4'
    ·exact hd k (by omega)
   refine wwe ?_
   have h6:i=0∨i=1∨i=2∨i=3∨i=4∨i=5:=by omega
   rcases h6 with rfl | rfl | rfl | rfl | rfl | rfl
   all_goals
    refine qAz (fun i=>bif Nat.beq i 5||Nat.beq i 14 then [0] else []) (fun i=>bif Nat.beq i 14 then [0] else []) mixed (by kernel_rfl) ?_
    refine wwg ?_
    refine qBl (qAl hT rfl rfl rfl rfl (by decide)) rfl rfl ?_
    refine wwg ?_
    refine qBl (qAl hT rfl rfl rfl rfl (by decide)) rfl rfl ?_
    refine wwg ?_
    refine ww ?_
   ·exact ⟨1,⟨by omega,hd'⟩,by omega,⟨.refl _,.refl _,.refl _,.int hwr,trivial⟩,⟨ObLe.row (by show [AV.d (.int .i64 _),_,_]=_;rw [hX _ (by simp [pN])];simp [pN]),trivial⟩⟩
   ·exact ⟨2,⟨by omega,hd'⟩,by omega,⟨.refl _,.refl _,.refl _,.int hwr,trivial⟩,⟨ObLe.row (by show [AV.d (.int .i64 _),_,_]=_;rw [hX _ (by simp [pN];exact hdr 0 (by omega))];simp [pN]),trivial⟩⟩
   ·exact ⟨3,⟨by omega,hd'⟩,by omega,⟨.refl _,.refl _,.refl _,.int hwr,trivial⟩,⟨ObLe.row (by show [_,AV.d (.int .i64 _),_]=_;rw [hX _ (by simp [pN])];simp [pN]),trivial⟩⟩
   ·exact ⟨4,⟨by omega,hd'⟩,by omega,⟨.refl _,.refl _,.refl _,.int hwr,trivial⟩,⟨ObLe.row (by show [_,AV.d (.int .i64 _),_]=_;rw [hX _ (by simp [pN];exact hdr 2 (by omega))];simp [pN]),trivial⟩⟩
   ·exact ⟨5,⟨by omega,hd'⟩,by omega,⟨.refl _,.refl _,.refl _,.int hwr,trivial⟩,⟨ObLe.row (by show [_,_,AV.d (.int .i64 _)]=_;rw [hX _ (by simp [pN])];simp [pN]),trivial⟩⟩
   ·exact ⟨6,⟨by omega,hd'⟩,by omega,⟨.refl _,.refl _,.refl _,.int hwr,trivial⟩,⟨ObLe.row (by show [_,_,AV.d (.int .i64 _)]=_;rw [hX _ (by simp [pN];exact hdr 4 (by omega))];simp [pN]),trivial⟩⟩
 ·have c3':i=6:=by simp at c3;omega
  subst c3'
  have hal:=hall hd
  rw [if_neg (by rw [hal];simp)]
  have e0:pN s 0 6=pairI s 0:=rfl
  have e2:pN s 2 6=pairI s 2:=rfl
  have e4:pN s 4 6=pairI s 4:=rfl
  have r0:0≤pairI s 0∧pairI s 0≤99:=by have a:=hdr 0 (by omega);have b:=hdr 1 (by omega);unfold digD at a b;unfold pairI;simp only [Nat.zero_add];omega
  rw [e0,e2,e4]
  have ho:=fun y=>Of_spec y (pairI s 2) (pairI s 4)
  generalize pairI s 0=p0 at *
  generalize pairI s 2=p2 at *
  generalize pairI s 4=p4 at *
  have ht:first.tmod 100=first % 100:=Int.tmod_eq_emod_of_nonneg (by omega)
  have hy:IntKind.i64.wrap (IntKind.i64.wrap (first-first.tmod 100)+p0)=first-first.tmod 100+p0:=by rw [qAd (n:=first-first.tmod 100) (by omega),qAd (by omega)]
  have hy2:IntKind.i64.wrap (IntKind.i64.wrap (IntKind.i64.wrap (first-first.tmod 100)+p0)+100)=first-first.tmod 100+p0+100:=by rw [hy,qAd (by omega)]
  refine ww ?_
  first | refine qAe (qAc (qAl hT rfl rfl rfl rfl (by decide))) rfl ?_ | refine qAs (qAc (qAl hT rfl rfl rfl rfl (by decide))) rfl rfl ?_
  refine wws ?_
  refine qAr (ι:=Unit) (fun _=>[(6,.ptr 0 0),(8,.d (.int .i64 (if first-first.tmod 100+p0 < first then first-first.tmod 100+p0+100 else first-first.tmod 100+p0)))]) (fun _=>[.row [.d (.int .i64 p0),.d (.int .i64 p2),.d (.int .i64 p4)]]) (fun _=>True) ?_ (fun _ _=>?_)
  ·refine ww ?_
   refine qAa rfl (fun c5=>?_) (fun c5=>?_)
   ·have c5':first-first.tmod 100+p0 < first:=by rw [hy] at c5;simpa using c5
    rw [if_pos c5']
    refine ww ?_
    exact ⟨(),trivial,⟨.refl _,.int hy2,trivial⟩,HLe.refl _⟩
   ·have c5':¬ first-first.tmod 100+p0 < first:=by rw [hy] at c5;simpa using c5
    rw [if_neg c5']
    refine ww ?_
    exact ⟨(),trivial,⟨.refl _,.int hy,trivial⟩,HLe.refl _⟩
  ·have ho:=ho (if first-first.tmod 100+p0 < first then first-first.tmod 100+p0+100 else first-first.tmod 100+p0)
   simp only
   generalize (if first-first.tmod 100+p0 < first then first-first.tmod 100+p0+100 else first-first.tmod 100+p0)=y at ho
   refine ww ?_
   first | refine qAe (qAc (qAl hT rfl rfl rfl rfl (by decide))) rfl ?_ | refine qAs (qAc (qAl hT rfl rfl rfl rfl (by decide))) rfl rfl ?_
   refine ww ?_
   first | refine qAe (qAc (qAl hT rfl rfl rfl rfl (by decide))) rfl ?_ | refine qAs (qAc (qAl hT rfl rfl rfl rfl (by decide))) rfl rfl ?_
   refine ww ?_
   refine wwc ho ?_
   refine ww ?_
   exact wwr
end Tdoc
/- The program's days: dates.Of, dates.Parse. -/
set_option maxHeartbeats 8000000
set_option maxRecDepth 100000
set_option linter.unusedVariables false
set_option linter.unusedSimpArgs false
namespace Tdoc
open Go Go.Proofs
def lensD:List Dat:=[.int .i64 31,.int .i64 28,.int .i64 31,.int .i64 30,.int .i64 31,.int .i64 30,.int .i64 31,.int .i64 31,.int .i64 30,.int .i64 31,.int .i64 30,.int .i64 31]
theorem lensD_at {y m:Int} (hm:1≤m∧m≤12) (h:¬ (m=2∧leapR y=true)):lensD[(m-1).toNat]?=some (.int .i64 (longR y m)):=by
 have h12:m=1∨m=2∨m=3∨m=4∨m=5∨m=6∨m=7∨m=8∨m=9∨m=10∨m=11∨m=12:=by omega
 unfold longR
 rcases h12 with rfl | rfl | rfl | rfl | rfl | rfl | rfl | rfl | rfl | rfl | rfl | rfl
 all_goals first | rfl | (have hl:leapR y=false:=by simpa using h
                          rw [hl];rfl)
theorem leapP_spec (y:Int) (hy:1900≤y∧y≤2099):Spec Tryz.prog 277 [.d (.int .i64 y)] [] (fun r h'=>r=.d (.bool (leapR y))∧h'=[]):=by
 have e1:y.tmod 4=y % 4:=Int.tmod_eq_emod_of_nonneg (by omega)
 have e2:y.tmod 100=y % 100:=Int.tmod_eq_emod_of_nonneg (by omega)
 have e3:y.tmod 400=y % 400:=Int.tmod_eq_emod_of_nonneg (by omega)
 have hl:leapR y=(y.tmod 4 == 0&&(y.tmod 100 != 0||y.tmod 400 == 0)):=by
  unfold leapR
  rw [e1,e2,e3,Bool.eq_iff_iff]
  simp only [Bool.and_eq_true,decide_eq_true_eq,beq_iff_eq,Bool.or_eq_true,bne_iff_ne,ne_eq]
  omega
 rw [hl]
 refine qAb hT Tryz.func277 rfl rfl rfl rfl ?_;intro E hE
 refine ww ?_
 exact wwr
theorem daysP_spec (y m:Int) (hy:1900≤y∧y≤2099) (hm:1≤m∧m≤12):Spec Tryz.prog 264 [.d (.int .i64 y),.d (.int .i64 m)] [] (fun r h'=>r=.d (.int .i64 (longR y m))∧h'=[]):=by
 have hlp:=leapP_spec y hy
 have hat:=lensD_at (y:=y) hm
 have h29:m=2→leapR y=true→longR y m=29:=fun h1 h2=>by unfold longR;rw [h1,h2];rfl
 generalize leapR y=lp at hlp hat h29
 generalize longR y m=lg at hat h29
 have hwr:IntKind.i64.wrap (m-1)=m-1:=qAd (by omega)
 refine qAb hT Tryz.func264 rfl rfl rfl rfl ?_;intro E hE
 refine ww ?_
 refine wwgc hlp ?_
 refine ww ?_
 refine qAa rfl (fun c1=>?_) (fun c1=>?_)
 ·have c1':m=2∧lp=true:=by simpa using c1
  rw [h29 c1'.1 c1'.2]
  refine ww ?_
  exact wwr
 ·have c1':¬ (m=2∧lp=true):=by simpa using c1
  have hd:=hat c1'
  refine ww ?_
  refine qAe (qAc (qCs (cs:=lensD) hT rfl rfl rfl rfl (by rw [hwr];omega))) rfl ?_
  rw [hwr,Nat.mul_one]
  generalize hcs:lensD.drop (m-1).toNat=cs
  have hd0:cs[0]?=some (.int .i64 lg):=by rw [← hcs];simpa using hd
  match cs,hd0 with
  | d::cs,hd0 =>
   simp only [List.getElem?_cons_zero,Option.some.injEq] at hd0
   subst hd0
   refine ww ?_
   exact wwr
theorem beforeP_spec (n:Nat) (hn:n≤200):Spec Tryz.prog 265 [.d (.int .i64 (1900+(n:Int)))] [] (fun r h'=>r=.d (.int .i64 (yearsR n))∧h'=[]):=by
 have hw0:IntKind.i64.wrap (365*IntKind.i64.wrap (1900+(n:Int)-1900))=365*(n:Int):=by rw [qAd (n:=1900+(n:Int)-1900) (by omega),qAd (by omega)];omega
 refine qAb hT Tryz.func265 rfl rfl rfl rfl ?_;intro E hE
 refine ww ?_
 refine qAn (ι:=Nat) (fun k=>[(0,.d (.int .i64 (1900+(n:Int)))),(3,.d (.int .i64 (365*(n:Int)+(yearsR k-365*(k:Int))))),(4,.d (.int .i64 (1900+(k:Int))))]) (fun _=>[]) (fun k=>k≤n) (fun k=>n-k) 0 (by omega) ⟨.refl _,.int (by rw [hw0];simp [yearsR]),.refl _,trivial⟩ (HLe.refl _) ?_
 intro k hk
 have hyr:=yearsR_range k
 have hw1:IntKind.i64.wrap (1900+(k:Int)+1)=1900+((k+1:Nat):Int):=by rw [qAd (by omega)];omega
 have hys:yearsR (k+1)=yearsR k+365+(if leapR (1900+(k:Int))=true then 1 else 0):=rfl
 refine ww ?_
 refine qAa rfl (fun c2=>?_) (fun c2=>?_)
 ·have c2':k < n:=by simp at c2;omega
  have hlp:=leapP_spec (1900+(k:Int)) (by omega)
  have hlow:365*(k:Int)≤yearsR k:=by
   clear hlp hys hw1 c2 c2' hyr hw0 hE
   induction k with
   | zero=>simp [yearsR]
   | succ k ih=>have:=ih (by omega);rw [yearsR];split <;> omega
  have hw3:IntKind.i64.wrap (365*(n:Int)+(yearsR k-365*(k:Int))+1)=365*(n:Int)+(yearsR k-365*(k:Int))+1:=qAd (by omega)
  generalize leapR (1900+(k:Int))=lp at hlp hys
  refine ww ?_
  refine wwc hlp ?_
  refine ww ?_
  refine qAa rfl (fun c3=>?_) (fun c3=>?_)
  ·rw [if_pos c3] at hys
   refine ww ?_
   exact ⟨k+1,by omega,by omega,⟨.refl _,.int (by rw [hw3,hys];omega),.int hw1,trivial⟩,HLe.refl _⟩
  ·rw [if_neg (by simp [c3])] at hys
   refine ww ?_
   exact ⟨k+1,by omega,by omega,⟨.refl _,.int (by rw [hys];omega),.int hw1,trivial⟩,HLe.refl _⟩
 ·have c2':k=n:=by simp at c2;omega
  subst c2'
  have he:365*(k:Int)+(yearsR k-365*(k:Int))=yearsR k:=by omega
  rw [he]
  refine ww ?_
  exact wwr
theorem OfP_spec (y m d:Int) (hb : -1000000≤d∧d≤1000000):Spec Tryz.prog 239 [.d (.int .i64 y),.d (.int .i64 m),.d (.int .i64 d)] [] (fun r h'=>r=.tup [.d (.int .i64 (ofF y m d).1),.d (.int .i64 (ofF y m d).2)]∧h'=[]):=by
 unfold ofF
 have hlr:=qCy y m
 have hlg:1900≤y∧y≤2099→1≤m∧m≤12→_:=daysP_spec y m
 generalize hlm:longR y m=lm at hlg hlr
 refine qAb hT Tryz.func239 rfl rfl rfl rfl ?_;intro E hE
 refine ww ?_
 refine qAy rfl rfl rfl (fun hg=>⟨(sg (C:=True) hg).1,callS0 rfl rfl (hlg (by simp [gval] at hg;omega) (by simp [gval] at hg;omega)) rfl rfl rfl⟩) ?_
 refine ww ?_
 refine qAa rfl (fun c1=>?_) (fun c1=>?_)
 ·have c1':y < 1900∨y > 2099∨m < 1∨m > 12∨d < 1∨d > lm:=by simp at c1;omega
  rw [if_pos c1']
  refine ww ?_
  exact wwr
 ·have c1':¬ (y < 1900∨y > 2099∨m < 1∨m > 12∨d < 1∨d > lm):=by simp at c1;omega
  rw [if_neg c1']
  obtain ⟨yn,rfl⟩:∃ yn:Nat,y=1900+(yn:Int):=⟨(y-1900).toNat,by omega⟩
  obtain ⟨mn,rfl⟩:∃ mn:Nat,m=(mn:Int)+1:=⟨(m-1).toNat,by omega⟩
  rw [show (1900+(yn:Int)-1900).toNat=yn by omega,show ((mn:Int)+1-1).toNat=mn by omega]
  have hbf:=beforeP_spec yn (by omega)
  have hyr:=yearsR_range yn
  have hwd:IntKind.i64.wrap (IntKind.i64.wrap (yearsR yn+d)-1)=yearsR yn+d-1:=by rw [qAd (n:=yearsR yn+d) (by omega),qAd (by omega)]
  refine ww ?_
  refine wwc hbf ?_
  refine ww ?_
  refine qAn (ι:=Nat) (fun i=>[(0,.d (.int .i64 (1900+(yn:Int)))),(1,.d (.int .i64 ((mn:Int)+1))),(8,.d (.int .i64 (d-1+yearsR yn+monthsR (1900+(yn:Int)) i))),(9,.d (.int .i64 ((i:Int)+1)))]) (fun _=>[]) (fun i=>i≤mn) (fun i=>mn-i) 0 (by omega) ⟨.refl _,.refl _,.int (by rw [hwd];simp [monthsR];omega),.refl _,trivial⟩ (HLe.refl _) ?_
  intro i hi
  have hmr:=monthsR_range (1900+(yn:Int)) i
  have hw4:IntKind.i64.wrap ((i:Int)+1+1)=((i+1:Nat):Int)+1:=by rw [qAd (by omega)];omega
  refine ww ?_
  refine qAa rfl (fun c4=>?_) (fun c4=>?_)
  ·have c4':i < mn:=by simp at c4;omega
   have hlg:=daysP_spec (1900+(yn:Int)) ((i:Int)+1) (by omega) (by omega)
   have hlr2:=qCy (1900+(yn:Int)) ((i:Int)+1)
   have hms:monthsR (1900+(yn:Int)) (i+1)=monthsR (1900+(yn:Int)) i+longR (1900+(yn:Int)) ((i:Int)+1):=rfl
   generalize longR (1900+(yn:Int)) ((i:Int)+1)=lg at hlg hlr2 hms
   have hw5:IntKind.i64.wrap (d-1+yearsR yn+monthsR (1900+(yn:Int)) i+lg)=d-1+yearsR yn+monthsR (1900+(yn:Int)) (i+1):=by rw [qAd (by omega),hms];omega
   refine ww ?_
   refine wwc hlg ?_
   refine ww ?_
   exact ⟨i+1,by omega,by omega,⟨.refl _,.refl _,.int hw5,.int hw4,trivial⟩,HLe.refl _⟩
  ·have c4':i=mn:=by simp at c4;omega
   subst c4'
   refine ww ?_
   exact wwr
theorem dayParseP_spec (s:List UInt8) (first:Int) (hs:s.length≤1000000):Spec Tryz.prog 183 [.d (.str s),.d (.int .i64 first)] [] (fun r h'=>r=.tup [.d (.int .i64 (dayParse s first).1),.d (.int .i64 (dayParse s first).2)]∧h'=[]):=by
 unfold dayParse
 refine qAb hT Tryz.func183 rfl rfl rfl rfl ?_;intro E hE
 refine ww ?_
 refine qAa rfl (fun c1=>?_) (fun c1=>?_)
 ·have c1':first < 1900∨first > 2000:=by simpa using c1
  rw [if_pos c1']
  refine ww ?_
  exact wwr
 have c1':¬ (first < 1900∨first > 2000):=by simpa using c1
 rw [if_neg c1']
 refine ww ?_
 refine qAa rfl (fun c2=>?_) (fun c2=>?_)
 ·have c2':s.length≠6:=by simp at c2;omega
  rw [if_pos c2']
  refine ww ?_
  exact wwr
 have c2':¬ s.length≠6:=by simp at c2;omega
 have hlen:s.length=6:=by omega
 rw [if_neg c2']
 refine ww ?_
 refine qAn (ι:=Nat) (fun i=>[(0,.d (.str s)),(1,.d (.int .i64 first)),(6,.ptr 0 0),(19,.d (.int .i64 (s.length:Int))),(20,.d (.int .i64 (i:Int)))]) (fun i=>[.row [.d (.int .i64 (pN s 0 i)),.d (.int .i64 (pN s 2 i)),.d (.int .i64 (pN s 4 i))]]) (fun i=>i≤6∧∀ k,k < i→isDig (s.getD k 0)=true) (fun i=>6-i) 0 ⟨by omega,fun k hk=>by omega⟩ ⟨.refl _,.refl _,.refl _,.refl _,.refl _,trivial⟩ (HLe.refl _) ?_
 rintro i ⟨hi,hd⟩
 have hwr:IntKind.i64.wrap ((i:Int)+1)=((i+1:Nat):Int):=by rw [qAd (by omega)];simp
 have hall:(∀ k,k < 6→isDig (s.getD k 0)=true)→s.all isDig=true:=fun h=>by
  rw [List.all_eq_true]
  intro c hc
  obtain ⟨k,hk,rfl⟩:=List.getElem_of_mem hc
  have:=h k (by omega)
  rw [List.getD_eq_getElem?_getD,List.getElem?_eq_getElem hk] at this
  exact this
 have hdr:∀ k,k < i→0≤digD s k∧digD s k≤9:=fun k hk=>by have:=(qBm _).1 (hd k hk);unfold digD;omega
 refine ww ?_
 refine qAa rfl (fun c3=>?_) (fun c3=>?_)
 ·have c3':i < 6:=by simp at c3;omega
  have hsa:strAt s (i:Int)=bI (s.getD i 0):=by unfold strAt bI;rw [List.getD_eq_getElem?_getD,Int.toNat_natCast]
  have hbr:=bI_range (s.getD i 0)
  refine ww ?_
  refine qAa rfl (fun c4=>?_) (fun c4=>?_)
  ·have c4':s.all isDig=false:=by
    rw [hsa] at c4
    have hn:isDig (s.getD i 0)=false:=by
     cases hx:isDig (s.getD i 0) with
     | false=>rfl
     | true=>have:=(qBm _).1 hx;simp only [Bool.or_eq_true,decide_eq_true_eq] at c4;omega
    cases hx:s.all isDig with
    | false=>rfl
    | true =>
     rw [List.all_eq_true] at hx
     have:=hx (s.getD i 0) (by rw [List.getD_eq_getElem?_getD,List.getElem?_eq_getElem (by omega)];exact List.getElem_mem _)
     rw [hn] at this;cases this
   rw [if_pos c4']
   refine ww ?_
   exact wwr
  ·have c4':isDig (s.getD i 0)=true:=by rw [hsa] at c4;exact (qBm _).2 (by simp only [Bool.or_eq_false_iff,decide_eq_false_iff_not] at c4;omega)
   have hdi:=(qBm _).1 c4'
   have hX:∀ p:Int,0≤p∧p≤9→IntKind.i64.wrap (IntKind.i64.wrap (10*p)+IntKind.i64.wrap (IntKind.u8.wrap (strAt s (i:Int)-48)))=10*p+digD s i:=fun p hp=>by
    rw [hsa,wrapu8 (by omega),qAd (n:=10*p) (by omega),qAd (n:=bI (s.getD i 0)-48) (by omega),qAd (by unfold digD at *;omega)];rfl
   have hd':∀ k,k < i+1→isDig (s.getD k 0)=true:=fun k hk=>by
    by_cases h:k=i
    ·rw [h];exact c4'
    ·exact hd k (by omega)
   refine wwe ?_
   have h6:i=0∨i=1∨i=2∨i=3∨i=4∨i=5:=by omega
   rcases h6 with rfl | rfl | rfl | rfl | rfl | rfl
   all_goals
    refine qAz (fun i=>bif Nat.beq i 5||Nat.beq i 14 then [0] else []) (fun i=>bif Nat.beq i 14 then [0] else []) mixed (by kernel_rfl) ?_
    refine wwg ?_
    refine qBl (qAl hT rfl rfl rfl rfl (by decide)) rfl rfl ?_
    refine wwg ?_
    refine qBl (qAl hT rfl rfl rfl rfl (by decide)) rfl rfl ?_
    refine wwg ?_
    refine ww ?_
   ·exact ⟨1,⟨by omega,hd'⟩,by omega,⟨.refl _,.refl _,.refl _,.refl _,.int hwr,trivial⟩,⟨ObLe.row (by show [AV.d (.int .i64 _),_,_]=_;rw [hX _ (by simp [pN])];simp [pN]),trivial⟩⟩
   ·exact ⟨2,⟨by omega,hd'⟩,by omega,⟨.refl _,.refl _,.refl _,.refl _,.int hwr,trivial⟩,⟨ObLe.row (by show [AV.d (.int .i64 _),_,_]=_;rw [hX _ (by simp [pN];exact hdr 0 (by omega))];simp [pN]),trivial⟩⟩
   ·exact ⟨3,⟨by omega,hd'⟩,by omega,⟨.refl _,.refl _,.refl _,.refl _,.int hwr,trivial⟩,⟨ObLe.row (by show [_,AV.d (.int .i64 _),_]=_;rw [hX _ (by simp [pN])];simp [pN]),trivial⟩⟩
   ·exact ⟨4,⟨by omega,hd'⟩,by omega,⟨.refl _,.refl _,.refl _,.refl _,.int hwr,trivial⟩,⟨ObLe.row (by show [_,AV.d (.int .i64 _),_]=_;rw [hX _ (by simp [pN];exact hdr 2 (by omega))];simp [pN]),trivial⟩⟩
   ·exact ⟨5,⟨by omega,hd'⟩,by omega,⟨.refl _,.refl _,.refl _,.refl _,.int hwr,trivial⟩,⟨ObLe.row (by show [_,_,AV.d (.int .i64 _)]=_;rw [hX _ (by simp [pN])];simp [pN]),trivial⟩⟩
   ·exact ⟨6,⟨by omega,hd'⟩,by omega,⟨.refl _,.refl _,.refl _,.refl _,.int hwr,trivial⟩,⟨ObLe.row (by show [_,_,AV.d (.int .i64 _)]=_;rw [hX _ (by simp [pN];exact hdr 4 (by omega))];simp [pN]),trivial⟩⟩
 ·have c3':i=6:=by simp at c3;omega
  subst c3'
  have hal:=hall hd
  rw [if_neg (by rw [hal];simp)]
  have e0:pN s 0 6=pairI s 0:=rfl
  have e2:pN s 2 6=pairI s 2:=rfl
  have e4:pN s 4 6=pairI s 4:=rfl
  have r0:0≤pairI s 0∧pairI s 0≤99:=by have a:=hdr 0 (by omega);have b:=hdr 1 (by omega);unfold digD at a b;unfold pairI;simp only [Nat.zero_add];omega
  rw [e0,e2,e4]
  have r4:0≤pairI s 4∧pairI s 4≤99:=by have a:=hdr 4 (by omega);have b:=hdr 5 (by omega);unfold digD at a b;unfold pairI;simp only [Nat.reduceAdd];omega
  have ho:=fun y=>OfP_spec y (pairI s 2) (pairI s 4) (by omega)
  generalize pairI s 0=p0 at *
  generalize pairI s 2=p2 at *
  generalize pairI s 4=p4 at *
  have ht:first.tmod 100=first % 100:=Int.tmod_eq_emod_of_nonneg (by omega)
  have hy:IntKind.i64.wrap (IntKind.i64.wrap (first-first.tmod 100)+p0)=first-first.tmod 100+p0:=by rw [qAd (n:=first-first.tmod 100) (by omega),qAd (by omega)]
  have hy2:IntKind.i64.wrap (IntKind.i64.wrap (IntKind.i64.wrap (first-first.tmod 100)+p0)+100)=first-first.tmod 100+p0+100:=by rw [hy,qAd (by omega)]
  refine ww ?_
  first | refine qAe (qAc (qAl hT rfl rfl rfl rfl (by decide))) rfl ?_ | refine qAs (qAc (qAl hT rfl rfl rfl rfl (by decide))) rfl rfl ?_
  refine wws ?_
  refine qAr (ι:=Unit) (fun _=>[(6,.ptr 0 0),(8,.d (.int .i64 (if first-first.tmod 100+p0 < first then first-first.tmod 100+p0+100 else first-first.tmod 100+p0)))]) (fun _=>[.row [.d (.int .i64 p0),.d (.int .i64 p2),.d (.int .i64 p4)]]) (fun _=>True) ?_ (fun _ _=>?_)
  ·refine ww ?_
   refine qAa rfl (fun c5=>?_) (fun c5=>?_)
   ·have c5':first-first.tmod 100+p0 < first:=by rw [hy] at c5;simpa using c5
    rw [if_pos c5']
    refine ww ?_
    exact ⟨(),trivial,⟨.refl _,.int hy2,trivial⟩,HLe.refl _⟩
   ·have c5':¬ first-first.tmod 100+p0 < first:=by rw [hy] at c5;simpa using c5
    rw [if_neg c5']
    refine ww ?_
    exact ⟨(),trivial,⟨.refl _,.int hy,trivial⟩,HLe.refl _⟩
  ·have ho:=ho (if first-first.tmod 100+p0 < first then first-first.tmod 100+p0+100 else first-first.tmod 100+p0)
   simp only
   generalize (if first-first.tmod 100+p0 < first then first-first.tmod 100+p0+100 else first-first.tmod 100+p0)=y at ho
   refine ww ?_
   first | refine qAe (qAc (qAl hT rfl rfl rfl rfl (by decide))) rfl ?_ | refine qAs (qAc (qAl hT rfl rfl rfl rfl (by decide))) rfl rfl ?_
   refine ww ?_
   first | refine qAe (qAc (qAl hT rfl rfl rfl rfl (by decide))) rfl ?_ | refine qAs (qAc (qAl hT rfl rfl rfl rfl (by decide))) rfl rfl ?_
   refine ww ?_
   refine wwc ho ?_
   refine ww ?_
   exact wwr
end Tdoc
/- The reference's parts of zones: letters, plain, dates of birth, additions; Valid. -/
set_option maxHeartbeats 8000000
set_option maxRecDepth 100000
set_option linter.unusedVariables false
set_option linter.unusedSimpArgs false
namespace Tdoc
open Go Go.Proofs
theorem isUp_iff (c:UInt8):isUp c=true↔65≤bI c∧bI c≤90:=by simp [isUp]
theorem all_split {p:UInt8→Bool} {s:List UInt8} {i:Nat} (h:i < s.length):(s.drop i).all p=(p s[i]&&(s.drop (i+1)).all p):=by rw [qCl h,List.all_cons]
theorem letters_spec (s:List UInt8) (most:Int) (hs:s.length≤1000000):Spec Tryz.prog 166 [.d (.str s),.d (.int .i64 most)] [] (fun r h'=>r=.d (.bool (lettersF s most))∧h'=[]):=by
 generalize hfin:lettersF s most=fin
 unfold lettersF at hfin
 refine qAb hT Tryz.func166 rfl rfl rfl rfl ?_;intro E hE
 refine ww ?_
 refine qAa rfl (fun c1=>?_) (fun c1=>?_)
 ·have c1':¬ (1≤s.length∧(s.length:Int)≤most):=by simp at c1;omega
  rw [decide_eq_false c1',Bool.false_and] at hfin
  subst hfin
  refine ww ?_
  exact wwr
 have c1':1≤s.length∧(s.length:Int)≤most:=by simp at c1;omega
 rw [decide_eq_true c1',Bool.true_and] at hfin
 refine ww ?_
 refine qAn (ι:=Nat) (fun i=>[(0,.d (.str s)),(5,.d (.int .i64 (i:Int)))]) (fun _=>[]) (fun i=>i≤s.length∧(s.drop i).all isUp=fin) (fun i=>s.length-i) 0 ⟨by omega,by simpa using hfin⟩ ⟨.refl _,.refl _,trivial⟩ (HLe.refl _) ?_
 rintro i ⟨hi,hg⟩
 have hwr:IntKind.i64.wrap ((i:Int)+1)=((i+1:Nat):Int):=by rw [qAd (by omega)];simp
 refine ww ?_
 refine qAa rfl (fun c2=>?_) (fun c2=>?_)
 ·have c2':i < s.length:=by simpa using c2
  have hsa:=qBu c2'
  rw [all_split c2'] at hg
  generalize s[i]=c at hsa hg
  refine ww ?_
  refine qAa rfl (fun c3=>?_) (fun c3=>?_)
  ·have c3':isUp c=false:=by
    rw [hsa] at c3
    cases hx:isUp c with
    | false=>rfl
    | true=>have:=(isUp_iff _).1 hx;simp only [Bool.or_eq_true,decide_eq_true_eq] at c3;omega
   rw [c3',Bool.false_and] at hg
   subst hg
   refine ww ?_
   exact wwr
  ·have c3':isUp c=true:=by rw [hsa] at c3;exact (isUp_iff _).2 (by simp only [Bool.or_eq_false_iff,decide_eq_false_iff_not] at c3;omega)
   rw [c3',Bool.true_and] at hg
   refine ww ?_
   exact ⟨i+1,⟨by omega,hg⟩,by omega,⟨.refl _,.int hwr,trivial⟩,HLe.refl _⟩
 ·have c2':i=s.length:=by simp at c2;omega
  subst c2'
  rw [List.drop_length,List.all_nil] at hg
  subst hg
  refine ww ?_
  exact wwr
theorem plain_spec (s:List UInt8) (hs:s.length≤1000000):Spec Tryz.prog 168 [.d (.str s)] [] (fun r h'=>r=.d (.bool (plainF s))∧h'=[]):=by
 generalize hfin:plainF s=fin
 unfold plainF at hfin
 refine qAb hT Tryz.func168 rfl rfl rfl rfl ?_;intro E hE
 refine ww ?_
 refine qAn (ι:=Nat) (fun i=>[(0,.d (.str s)),(3,.d (.int .i64 (i:Int)))]) (fun _=>[]) (fun i=>i≤s.length∧(s.drop i).all (fun c=>decide (c≠60∧0≤valC (bI c)))=fin) (fun i=>s.length-i) 0 ⟨by omega,by simpa using hfin⟩ ⟨.refl _,.refl _,trivial⟩ (HLe.refl _) ?_
 rintro i ⟨hi,hg⟩
 have hwr:IntKind.i64.wrap ((i:Int)+1)=((i+1:Nat):Int):=by rw [qAd (by omega)];simp
 refine ww ?_
 refine qAa rfl (fun c2=>?_) (fun c2=>?_)
 ·have c2':i < s.length:=by simpa using c2
  have hsa:=qBu c2'
  rw [all_split c2'] at hg
  have hr:=bI_range s[i]
  have hc:bI s[i]=60↔s[i]=60:=byte_eq (c:=s[i]) (d:=60)
  generalize s[i]=c at hsa hg hr hc
  have hv:=Value_spec (strAt s (i:Int)) (by rw [hsa];exact hr)
  refine ww ?_
  refine wwgc hv ?_
  refine ww ?_
  refine qAa rfl (fun c3=>?_) (fun c3=>?_)
  ·have c3':¬ (c≠60∧0≤valC (bI c)):=by
    rw [hsa] at c3
    simp only [Bool.or_eq_true,decide_eq_true_eq,beq_iff_eq] at c3
    rintro ⟨g1,g2⟩
    rcases c3 with h | h
    ·exact g1 (hc.1 h)
    ·omega
   rw [decide_eq_false c3',Bool.false_and] at hg
   subst hg
   refine ww ?_
   exact wwr
  ·have c3':c≠60∧0≤valC (bI c):=by
    rw [hsa] at c3
    simp only [Bool.or_eq_false_iff,decide_eq_false_iff_not,beq_eq_false_iff_ne] at c3
    exact ⟨fun h=>c3.1 (hc.2 h),by omega⟩
   rw [decide_eq_true c3',Bool.true_and] at hg
   refine ww ?_
   exact ⟨i+1,⟨by omega,hg⟩,by omega,⟨.refl _,.int hwr,trivial⟩,HLe.refl _⟩
 ·have c2':i=s.length:=by simp at c2;omega
  subst c2'
  rw [List.drop_length,List.all_nil] at hg
  subst hg
  refine ww ?_
  exact wwr
theorem pair_spec (a b:UInt8):Spec Tryz.prog 232 [.d (.str [a,b])] [] (fun r h'=>r=.d (.int .i64 (pairF [a,b]))∧h'=[]):=by
 have ha:=bI_range a
 have hb:=bI_range b
 have sa:strAt [a,b] 0=bI a:=rfl
 have sb:strAt [a,b] 1=bI b:=rfl
 have hpi:pairI [a,b] 0=10*(bI a-48)+(bI b-48):=rfl
 have hga:isDig ([a,b].getD 0 0)=isDig a:=rfl
 have hgb:isDig ([a,b].getD 1 0)=isDig b:=rfl
 have hl:[a,b].length=2:=rfl
 unfold pairF
 rw [hpi,hga,hgb]
 clear hpi hga hgb
 generalize [a,b]=s at sa sb hl ⊢
 refine qAb hT Tryz.func232 rfl rfl rfl rfl ?_;intro E hE
 refine ww ?_
 refine qAa rfl (fun c1=>?_) (fun c1=>?_)
 ·have c1':s=[60,60]:=by simpa using c1
  rw [if_pos c1']
  refine ww ?_
  exact wwr
 have c1':¬ s=[60,60]:=by simpa using c1
 rw [if_neg c1']
 refine ww ?_
 refine qAa rfl (fun c2=>?_) (fun c2=>?_)
 ·have c2':¬ (isDig a=true∧isDig b=true):=by
   rintro ⟨g1,g2⟩
   have h1:=(qBm _).1 g1
   have h2:=(qBm _).1 g2
   rw [sa,sb] at c2
   simp only [Bool.or_eq_true,decide_eq_true_eq] at c2
   omega
  rw [if_neg c2']
  refine ww ?_
  exact wwr
 ·have c2':48≤bI a∧bI a≤57∧48≤bI b∧bI b≤57:=by
   rw [sa,sb] at c2
   simp only [Bool.or_eq_false_iff,decide_eq_false_iff_not] at c2
   omega
  rw [if_pos ⟨(qBm _).2 (by omega),(qBm _).2 (by omega)⟩]
  have hw:IntKind.i64.wrap (IntKind.i64.wrap (10*IntKind.i64.wrap (IntKind.u8.wrap (strAt s 0-48)))+IntKind.i64.wrap (IntKind.u8.wrap (strAt s 1-48)))=10*(bI a-48)+(bI b-48):=by
   rw [sa,sb,wrapu8 (n:=bI a-48) (by omega),wrapu8 (n:=bI b-48) (by omega),qAd (n:=bI a-48) (by omega),qAd (n:=bI b-48) (by omega),qAd (n:=10*(bI a-48)) (by omega),qAd (by omega)]
  refine ww ?_
  exact wwr
theorem six {s:List UInt8} (h:s.length=6):∃ a b c d e f,s=[a,b,c,d,e,f]:=by
 match s,h with
 | [a,b,c,d,e,f],_=>exact ⟨a,b,c,d,e,f,rfl⟩
theorem birth_spec (s:List UInt8):Spec Tryz.prog 169 [.d (.str s)] [] (fun r h'=>r=.d (.bool (birthF s))∧h'=[]):=by
 generalize hfin:birthF s=fin
 unfold birthF at hfin
 refine qAb hT Tryz.func169 rfl rfl rfl rfl ?_;intro E hE
 refine ww ?_
 refine qAa rfl (fun c1=>?_) (fun c1=>?_)
 ·have c1':¬ s.length=6:=by simp at c1;omega
  rw [decide_eq_false c1',Bool.false_and] at hfin
  subst hfin
  refine ww ?_
  exact wwr
 have c1':s.length=6:=by simp at c1;omega
 rw [decide_eq_true c1',Bool.true_and] at hfin
 obtain ⟨a,b,c,d,e,f,rfl⟩:=six c1'
 have h1:=pair_spec a b
 have h2:=pair_spec c d
 have h3:=pair_spec e f
 rw [show ([a,b,c,d,e,f].take 2)=[a,b] from rfl,show (([a,b,c,d,e,f].take 4).drop 2)=[c,d] from rfl,show ([a,b,c,d,e,f].drop 4)=[e,f] from rfl] at hfin
 generalize pairF [a,b]=p1 at h1 hfin
 generalize pairF [c,d]=p2 at h2 hfin
 generalize pairF [e,f]=p3 at h3 hfin
 subst hfin
 refine ww ?_
 refine wwc h1 ?_
 refine ww ?_
 refine wwc h2 ?_
 refine ww ?_
 refine wwc h3 ?_
 refine ww ?_
 refine rq ⟨rfl,rfl⟩ rfl (.bool ?_)
 by_cases g1:p1 > -2 <;> by_cases g2:p2 = -1 <;> by_cases g3:1≤p2 <;> by_cases g4:p2≤12 <;> by_cases g5:p3 = -1 <;> by_cases g6:1≤p3 <;> by_cases g7:p3≤31 <;> simp [g1,g2,g3,g4,g5,g6,g7] <;> omega
theorem extra_spec (s:List UInt8) (hs:s.length≤1000000):Spec Tryz.prog 171 [.d (.str s)] [] (fun r h'=>r=.d (.bool (extraF s))∧h'=[]):=by
 have hv:=ValidS_spec s hs
 unfold extraF
 generalize validS s=ok at hv
 match s with
 | [] =>
  refine qAb hT Tryz.func171 rfl rfl rfl rfl ?_;intro E hE
  refine ww ?_
  refine wwc hv ?_
  refine ww ?_
  refine qCo hT rfl rfl rfl rfl (fun hg=>absurd hg (by simp [gval])) ?_
  refine ww ?_
  refine qCo hT rfl rfl rfl rfl (fun hg=>absurd hg (by simp [gval])) ?_
  refine ww ?_
  refine rq ⟨rfl,rfl⟩ rfl (.bool ?_)
  simp
 | c::t =>
  have sa:strAt (c::t) 0=bI c:=rfl
  have hlen:(c::t).length=t.length+1:=rfl
  have hlast:(c::t).getLast?=some ((c::t)[t.length]'(by simp)):=by
   rw [List.getLast?_eq_getElem?,List.length_cons,Nat.add_sub_cancel,List.getElem?_eq_getElem]
  have sb:=qBu (s:=c::t) (i:=t.length) (by simp)
  rw [hlast,show (c::t).head?=some c from rfl,show decide (c::t=[])=false from rfl,Bool.false_or]
  generalize (c::t)[t.length]'(by simp)=e at sb
  have hce:bI e=60↔e=60:=byte_eq (c:=e) (d:=60)
  have hcc:bI c=60↔c=60:=byte_eq (c:=c) (d:=60)
  have hne:¬ c::t=[]:=by simp
  clear hlast
  generalize c::t=s at hv hs sa hlen sb hne ⊢
  have hwl:IntKind.i64.wrap ((s.length:Int)-1)=((t.length:Nat):Int):=by rw [qAd (by omega)];omega
  refine qAb hT Tryz.func171 rfl rfl rfl rfl ?_;intro E hE
  refine ww ?_
  refine wwc hv ?_
  refine ww ?_
  refine rq ⟨rfl,rfl⟩ rfl (.bool ?_)
  rw [hwl,sa,sb]
  cases ok <;> by_cases g1:c=60 <;> by_cases g2:e=60 <;> simp [g1,g2,hcc,hce,hne,show bI 60=60 from rfl]
end Tdoc
/- The reference's zones: the room for additions; Valid. -/
set_option maxHeartbeats 8000000
set_option maxRecDepth 100000
set_option linter.unusedVariables false
set_option linter.unusedSimpArgs false
namespace Tdoc
open Go Go.Proofs
def zLen (z:Zon):Prop:=z.kind.length≤10000∧z.state.length≤10000∧z.sur.length≤10000∧z.giv.length≤10000∧z.num.length≤10000∧z.nat.length≤10000∧z.bir.length≤10000∧z.sex.length≤10000∧z.exp.length≤10000∧z.opt.length≤10000∧z.sec.length≤10000
theorem room_spec (z:Zon) (h1:1≤z.fmt∧z.fmt≤3) (hn:z.num.length≤1000000):Spec Tryz.prog 172 [zAV z] [] (fun r h'=>r=.d (.int .i64 (roomF z))∧h'=[]):=by
 obtain ⟨fmt,kind,state,sur,giv,num,nat,bir,sex,exp,opt,sec⟩:=z
 unfold roomF zAV zCells
 simp only at h1 hn ⊢
 generalize hr0:(if fmt=1 then (15:Int) else if fmt=2 then 7 else 14)=r0
 have hr1:0≤r0∧r0≤15:=by rw [← hr0];split <;> (try split) <;> omega
 have har:([.d (.int .i64 0),.d (.int .i64 15),.d (.int .i64 7),.d (.int .i64 14)]:List AV)[fmt.toNat]?=some (.d (.int .i64 r0)):=by
  have:fmt=1∨fmt=2∨fmt=3:=by omega
  rcases this with rfl | rfl | rfl <;> subst hr0 <;> rfl
 refine qAb hT Tryz.func172 rfl rfl rfl rfl ?_;intro E hE
 refine qAq ?_
 refine qAm (qAj ?_)
 refine qAe (qBb (i0:=0) rfl rfl rfl) rfl ?_
 refine ww ?_
 refine qAe (qAc (arrIdx_ok hT rfl rfl rfl rfl (by show 0≤fmt∧fmt < 4;omega) har)) rfl ?_
 refine ww ?_
 refine qAa rfl (fun c1=>?_) (fun c1=>?_)
 ·have c1':num.length > 9:=by simp at c1;omega
  rw [if_pos c1']
  have hw:IntKind.i64.wrap (r0-IntKind.i64.wrap (IntKind.i64.wrap ((num.length:Int)-9)+2))=r0-((num.length:Int)-9+2):=by
   rw [qAd (n:=(num.length:Int)-9) (by omega),qAd (n:=(num.length:Int)-9+2) (by omega),qAd (by omega)]
  refine ww ?_
  exact wwr
 ·have c1':¬ num.length > 9:=by simp at c1;omega
  rw [if_neg c1',Int.sub_zero]
  refine ww ?_
  exact wwr
theorem ValidZ_spec (z:Zon) (hz:zLen z):Spec Tryz.prog 100 [zAV z] [] (fun r h'=>r=.d (.int .i64 (validZ z))∧h'=[]):=by
 obtain ⟨z1,z2,z3,z4,z5,z6,z7,z8,z9,z10,z11⟩:=hz
 have hroom:=fun h=>room_spec z h (by omega)
 have hrr : -20000≤roomF z∧roomF z≤15:=by unfold roomF;split <;> (try split) <;> (try split) <;> omega
 have hk:=letters_spec z.kind 2 (by omega)
 have hs:=letters_spec z.state 3 (by omega)
 have hn:=letters_spec z.nat 3 (by omega)
 have hsu:=Name_spec z.sur (by omega)
 have hgi:=Name_spec z.giv (by omega)
 have hpl:=plain_spec z.num (by omega)
 have hbi:=birth_spec z.bir
 have hpa:=dayParse_spec z.exp 2000 (by omega)
 have hop:=extra_spec z.opt (by omega)
 have hse:=extra_spec z.sec (by omega)
 generalize hfin:validZ z=fin
 unfold validZ at hfin
 unfold zAV at hroom ⊢
 generalize roomF z=room at hfin hroom hrr
 obtain ⟨fmt,kind,state,sur,giv,num,nat,bir,sex,exp,opt,sec⟩:=z
 unfold zCells at hroom ⊢
 simp only at hfin hroom hk hs hn hsu hgi hpl hbi hpa hop hse z1 z2 z3 z4 z5 z6 z7 z8 z9 z10 z11 ⊢
 generalize lettersF kind 2=b1 at hk hfin
 generalize lettersF state 3=b2 at hs hfin
 generalize nameL true sur=b3 at hsu hfin
 generalize nameL true giv=b4 at hgi hfin
 generalize plainF num=b5 at hpl hfin
 generalize lettersF nat 3=b6 at hn hfin
 generalize birthF bir=b7 at hbi hfin
 generalize extraF opt=b8 at hop hfin
 generalize extraF sec=b9 at hse hfin
 generalize dayParse exp 2000=dp at hpa hfin
 obtain ⟨dd,de⟩:=dp
 simp only at hpa hfin
 refine qAb hT Tryz.func100 rfl rfl rfl rfl ?_;intro E hE
 refine qAq ?_
 refine qAm (qAj ?_)
 refine qAe (qBb (i0:=0) rfl rfl rfl) rfl ?_
 refine ww ?_
 refine wwgc hk ?_
 refine ww ?_
 refine wwgc hs ?_
 refine ww ?_
 refine wwgc hsu ?_
 refine ww ?_
 refine wwgc hgi ?_
 refine ww ?_
 refine wwgc hpl ?_
 refine ww ?_
 refine qAa rfl (fun c1=>?_) (fun c1=>?_)
 ·simp only [Bool.or_eq_true,Bool.not_eq_true',decide_eq_true_eq,beq_iff_eq,or_assoc] at c1
  rw [if_pos c1] at hfin
  subst hfin
  refine ww ?_
  exact wwr
 simp only [Bool.or_eq_false_iff,Bool.not_eq_false',decide_eq_false_iff_not,beq_eq_false_iff_ne,ne_eq,and_assoc] at c1
 obtain ⟨f1,f2,rfl,rfl,rfl,f3,rfl,f4,rfl⟩:=c1
 rw [if_neg (by simp;exact ⟨by omega,by omega,f3,f4⟩)] at hfin
 generalize hm0:mostN fmt=m0 at hfin
 have har:([.d (.int .i64 0),.d (.int .i64 20),.d (.int .i64 14),.d (.int .i64 9)]:List AV)[fmt.toNat]?=some (.d (.int .i64 m0)):=by
  have:fmt=1∨fmt=2∨fmt=3:=by omega
  rcases this with rfl | rfl | rfl <;> subst hm0 <;> rfl
 refine ww ?_
 refine qAs (qAc (arrIdx_ok hT rfl rfl rfl rfl (by show 0≤fmt∧fmt < 4;omega) har)) rfl rfl ?_
 refine ww ?_
 refine qAa rfl (fun c2=>?_) (fun c2=>?_)
 ·have c2':(num.length:Int) > m0:=by simpa using c2
  rw [if_pos c2'] at hfin
  subst hfin
  refine ww ?_
  exact wwr
 have c2':¬ (num.length:Int) > m0:=by simpa using c2
 rw [if_neg c2'] at hfin
 refine ww ?_
 refine wwc hn ?_
 refine ww ?_
 refine qAa rfl (fun c3=>?_) (fun c3=>?_)
 ·have c3':b6=false:=by simpa using c3
  rw [if_pos c3'] at hfin
  subst hfin
  refine ww ?_
  exact wwr
 have c3':¬ b6=false:=by simpa using c3
 rw [if_neg c3'] at hfin
 refine ww ?_
 refine wwc hbi ?_
 refine ww ?_
 refine qAa rfl (fun c4=>?_) (fun c4=>?_)
 ·have c4':b7=false:=by simpa using c4
  rw [if_pos c4'] at hfin
  subst hfin
  refine ww ?_
  exact wwr
 have c4':¬ b7=false:=by simpa using c4
 rw [if_neg c4'] at hfin
 refine ww ?_
 refine qAa rfl (fun c5=>?_) (fun c5=>?_)
 ·have c5':sex≠[77]∧sex≠[70]∧sex≠[60]:=by simpa [and_assoc] using c5
  rw [if_pos c5'] at hfin
  subst hfin
  refine ww ?_
  exact wwr
 have c5':¬ (sex≠[77]∧sex≠[70]∧sex≠[60]):=by rintro ⟨g1,g2,g3⟩;simp [g1,g2,g3] at c5
 rw [if_neg c5'] at hfin
 refine ww ?_
 refine wwc hpa ?_
 refine ww ?_
 refine qAa rfl (fun c6=>?_) (fun c6=>?_)
 ·have c6':de≠0:=by simpa using c6
  rw [if_pos c6'] at hfin
  subst hfin
  refine ww ?_
  exact wwr
 have c6':¬ de≠0:=by simpa using c6
 rw [if_neg c6'] at hfin
 refine ww ?_
 refine wwc hop ?_
 refine ww ?_
 refine wwgc hse ?_
 refine ww ?_
 refine qAa rfl (fun c7=>?_) (fun c7=>?_)
 ·have c7':b8=false∨b9=false∨(sec≠[]∧fmt≠1):=by simpa [or_assoc] using c7
  rw [if_pos c7'] at hfin
  subst hfin
  refine ww ?_
  exact wwr
 have c7':¬ (b8=false∨b9=false∨(sec≠[]∧fmt≠1)):=by
  intro hh
  have:¬ (true=false):=by simp
  rcases hh with g | g | ⟨g1,g2⟩
  ·simp [g] at c7
  ·simp [g] at c7
  ·simp [g1,g2] at c7
 rw [if_neg c7'] at hfin
 have hroom':=hroom ⟨by omega,by omega⟩
 refine ww ?_
 refine wwc hroom' ?_
 refine ww ?_
 refine qAa rfl (fun c8=>?_) (fun c8=>?_)
 ·have c8':(opt.length:Int) > room∨(sec.length:Int) > 11:=by simpa using c8
  rw [if_pos c8'] at hfin
  subst hfin
  refine ww ?_
  exact wwr
 have c8':¬ ((opt.length:Int) > room∨(sec.length:Int) > 11):=by
  simp only [Bool.or_eq_false_iff,decide_eq_false_iff_not] at c8
  omega
 rw [if_neg c8'] at hfin
 subst hfin
 refine ww ?_
 exact wwr
end Tdoc
/- The reference's zones: number, lines. -/
set_option maxHeartbeats 8000000
set_option maxRecDepth 100000
set_option linter.unusedVariables false
set_option linter.unusedSimpArgs false
namespace Tdoc
open Go Go.Proofs
def encSs (l:List (List UInt8)):List (List Dat):=l.map fun s=>[.str s]
theorem qBz (s:List UInt8):(digitF s).1.length≤1:=by unfold digitF digitS;split <;> simp
theorem digit_one {s:List UInt8} (h:validS s=true):(digitF s).1.length=1:=by unfold digitF digitS;rw [if_pos h];rfl
theorem validS_append:∀ (a b:List UInt8),validS (a++b)=(validS a&&validS b)
 | [],b=>by simp [validS]
 | c::a,b=>by rw [List.cons_append,validS,validS,validS_append a b,Bool.and_assoc]
theorem validS_fill:∀ (n:Nat),validS (List.replicate n 60)=true
 | 0=>rfl
 | n+1=>by rw [List.replicate_succ,validS,validS_fill n];rfl
theorem validS_wide {s:List UInt8} (n:Nat) (h:validS s=true):validS (wideS s n)=true:=by unfold wideS;rw [validS_append,h,validS_fill];rfl
theorem valid_plain:∀ {s:List UInt8},plainF s=true→validS s=true
 | [],_=>rfl
 | c::s,h=>by
  rw [plainF,List.all_cons,Bool.and_eq_true,decide_eq_true_eq] at h
  rw [validS,valid_plain h.2,Bool.and_true,decide_eq_true_eq]
  exact h.1.2
theorem valid_dig:∀ {s:List UInt8},s.all isDig=true→validS s=true
 | [],_=>rfl
 | c::s,h=>by
  rw [List.all_cons,Bool.and_eq_true] at h
  have:=(qBm _).1 h.1
  rw [validS,valid_dig h.2,Bool.and_true,decide_eq_true_eq]
  unfold valC;rw [if_pos this];omega
theorem valid_pair {a b:UInt8} (h:pairF [a,b] > -2):validS [a,b]=true:=by
 unfold pairF at h
 split at h
 ·rename_i h1;rw [h1];rfl
 ·split at h
  ·rename_i h1 h2
   exact valid_dig (by simp only [List.all_cons,List.all_nil,Bool.and_true,Bool.and_eq_true];exact h2)
  ·omega
theorem valid_birth {s:List UInt8} (h:birthF s=true):s.length=6∧validS s=true:=by
 unfold birthF at h
 simp only [Bool.and_eq_true,decide_eq_true_eq] at h
 obtain ⟨h1,h2,h3,h4⟩:=h
 obtain ⟨a,b,c,d,e,f,rfl⟩:=six h1
 refine ⟨rfl,?_⟩
 have h2':pairF [a,b] > -2:=h2
 have h3':pairF [c,d] > -2:=by have:pairF [c,d] = -1∨1≤pairF [c,d]∧pairF [c,d]≤12:=h3;omega
 have h4':pairF [e,f] > -2:=by have:pairF [e,f] = -1∨1≤pairF [e,f]∧pairF [e,f]≤31:=h4;omega
 rw [show [a,b,c,d,e,f]=[a,b]++([c,d]++[e,f]) from rfl,validS_append,validS_append,valid_pair h2',valid_pair h3',valid_pair h4']
 rfl
theorem valid_day {s:List UInt8} {y:Int} (h:(dayParse s y).2=0):s.length=6∧validS s=true:=by
 unfold dayParse at h
 split at h
 ·exact absurd h (by simp)
 split at h
 ·exact absurd h (by simp)
 split at h
 ·exact absurd h (by simp)
 rename_i h1 h2 h3
 exact ⟨by omega,valid_dig (by simpa using h3)⟩
theorem letters_len {s:List UInt8} {n:Int} (h:lettersF s n=true):1≤s.length∧(s.length:Int)≤n:=by
 unfold lettersF at h
 rw [Bool.and_eq_true,decide_eq_true_eq] at h
 exact h.1
structure ZOk (z:Zon):Prop where
 fmt:1≤z.fmt∧z.fmt≤3
 kind:z.kind.length≤2
 state:z.state.length≤3
 nat:z.nat.length≤3
 bir:z.bir.length=6∧validS z.bir=true
 sex:z.sex.length=1
 exp:z.exp.length=6∧validS z.exp=true
 num:1≤z.num.length∧(z.num.length:Int)≤mostN z.fmt∧validS z.num=true
 opt:(z.opt.length:Int)≤roomF z∧validS z.opt=true
 sec:z.sec.length≤11∧validS z.sec=true
theorem validZ_ok {z:Zon} (h:validZ z=0):ZOk z:=by
 unfold validZ at h
 split at h
 ·exact absurd h (by omega)
 split at h
 ·exact absurd h (by omega)
 split at h
 ·exact absurd h (by omega)
 split at h
 ·exact absurd h (by omega)
 split at h
 ·exact absurd h (by omega)
 split at h
 ·exact absurd h (by omega)
 split at h
 ·exact absurd h (by omega)
 split at h
 ·exact absurd h (by omega)
 rename_i h1 h2 h3 h4 h5 h6 h7 h8
 simp only [not_or,Bool.not_eq_false] at h1 h3 h4 h7
 obtain ⟨f1,f2,f3,f4,f5,f6,f7,f8,f9⟩:=h1
 have hk:=letters_len f3
 have hs:=letters_len f4
 have hn:=letters_len h3
 have hop:validS z.opt=true:=by have:=h7.1;unfold extraF at this;rw [Bool.and_eq_true] at this;exact this.1
 have hse:validS z.sec=true:=by have:=h7.2.1;unfold extraF at this;rw [Bool.and_eq_true] at this;exact this.1
 have hsx:z.sex.length=1:=by
  by_cases g1:z.sex=[77]
  ·rw [g1];rfl
  by_cases g2:z.sex=[70]
  ·rw [g2];rfl
  by_cases g3:z.sex=[60]
  ·rw [g3];rfl
  exact absurd ⟨g1,g2,g3⟩ h5
 have hnm:1≤z.num.length:=by cases hx:z.num with
  | nil=>exact absurd hx f8
  | cons a l=>simp
 exact ⟨by omega,by omega,by omega,by omega,valid_birth h4,hsx,valid_day (by simpa using h6),⟨hnm,by omega,valid_plain f9⟩,⟨by omega,hop⟩,⟨by omega,hse⟩⟩
theorem checked_spec (s:List UInt8) (hs:s.length≤100000):Spec Tryz.prog 103 [.d (.str s)] [] (fun r h'=>r=.d (.str (checkedS s))∧h'=[]):=by
 have hd:=Digit_spec s (by omega)
 have hl:=qBz s
 unfold checkedS
 generalize digitF s=q at hd hl
 obtain ⟨d,e⟩:=q
 simp only at hd hl ⊢
 refine qAb hT Tryz.func103 rfl rfl rfl rfl ?_;intro E hE
 refine ww ?_
 refine wwc hd ?_
 refine ww ?_
 exact wwr
theorem number_spec (s:List UInt8) (hs:s.length≤10000):Spec Tryz.prog 102 [.d (.str s)] [] (fun r h'=>r=.tup [.d (.str (numberS s).1),.d (.str (numberS s).2)]∧h'=[]):=by
 have hd:=Digit_spec s (by omega)
 have hl:=qBz s
 have hw:=Wide_spec s 9 (by omega) (by omega)
 have hwl:=qBq s 9
 have hc:=checked_spec (wideS s 9) (by omega)
 generalize hfin:numberS s=fin
 unfold numberS at hfin
 generalize digitF s=q at hd hl hfin
 obtain ⟨d,e⟩:=q
 generalize wideS s 9=w at hw hwl hc hfin
 generalize checkedS w=cw at hc hfin
 simp only at hd hl hfin
 refine qAb hT Tryz.func102 rfl rfl rfl rfl ?_;intro E hE
 refine ww ?_
 refine qAa rfl (fun c1=>?_) (fun c1=>?_)
 ·have c1':s.length≤9:=by simp at c1;omega
  rw [if_pos c1'] at hfin
  subst hfin
  refine ww ?_
  refine wwc hw ?_
  refine ww ?_
  refine wwc hc ?_
  refine ww ?_
  exact wwr
 ·have c1':¬ s.length≤9:=by simp at c1;omega
  rw [if_neg c1'] at hfin
  subst hfin
  refine ww ?_
  refine wwc hd ?_
  refine ww ?_
  exact wwr
theorem checked_len {s:List UInt8} (h:validS s=true):(checkedS s).length=s.length+1:=by unfold checkedS;rw [List.length_append,digit_one h]
theorem number_len {s:List UInt8} (h:validS s=true) (hl:1≤s.length):(numberS s).1.length=10∧(numberS s).2.length=if s.length≤9 then 0 else s.length-9+2:=by
 unfold numberS
 split
 ·rename_i h1
  refine ⟨?_,rfl⟩
  rw [checked_len (validS_wide 9 h),qBq];omega
 ·rename_i h1
  refine ⟨?_,?_⟩
  ·show (s.take 9++[60]).length=10
   rw [List.length_append,List.length_take];simp;omega
  ·show (s.drop 9++(digitF s).1++[60]).length=s.length-9+2
   rw [List.length_append,List.length_append,List.length_drop,digit_one h];simp
end Tdoc
/- The program's parts of a zone: letters, dates of birth, additions, the layout. -/
set_option maxHeartbeats 8000000
set_option maxRecDepth 100000
set_option linter.unusedVariables false
set_option linter.unusedSimpArgs false
namespace Tdoc
open Go Go.Proofs
theorem lettersP_spec (s:List UInt8) (most:Int) (hs:s.length≤1000000):Spec Tryz.prog 184 [.d (.str s),.d (.int .i64 most)] [] (fun r h'=>r=.d (.bool (lettersF s most))∧h'=[]):=by
 have ht:=TrimUp_spec s hs
 have hl:lettersF s most=(decide ((s.length:Int)≥1)&&decide ((s.length:Int)≤most)&&(Lib.trimS s upS == [])):=by
  unfold lettersF
  rw [Bool.eq_iff_iff]
  simp only [Bool.and_eq_true,decide_eq_true_eq,beq_iff_eq]
  rw [trimS_nil]
  constructor
  ·rintro ⟨⟨h1,h2⟩,h3⟩;exact ⟨⟨by omega,h2⟩,h3⟩
  ·rintro ⟨⟨h1,h2⟩,h3⟩;exact ⟨⟨by omega,h2⟩,h3⟩
 rw [hl]
 generalize Lib.trimS s upS=ts at ht
 refine qAb hT Tryz.func184 rfl rfl rfl rfl ?_;intro E hE
 refine ww ?_
 refine wwgc ht ?_
 refine ww ?_
 exact wwr
theorem freeP_spec (s:List UInt8) (hs:s.length≤1000000):Spec Tryz.prog 189 [.d (.str s)] [] (fun r h'=>r=.d (.bool (extraF s))∧h'=[]):=by
 have hv:=ValidP_spec s hs
 have h1:=HasPrefix_spec s [60]
 have h2:=HasSuffix_spec s [60] hs
 rw [prefix_one] at h1
 rw [suffix_one] at h2
 have hl:extraF s=(validS s&&!decide (s.head?=some 60)&&!decide (s.getLast?=some 60)):=by
  unfold extraF
  cases s with
  | nil=>rfl
  | cons c l =>
   rw [Bool.eq_iff_iff]
   simp [and_assoc]
 rw [hl]
 generalize validS s=b0 at hv
 generalize decide (s.head?=some 60)=b1 at h1
 generalize decide (s.getLast?=some 60)=b2 at h2
 refine qAb hT Tryz.func189 rfl rfl rfl rfl ?_;intro E hE
 refine ww ?_
 refine wwc hv ?_
 refine ww ?_
 refine wwgc h1 ?_
 refine ww ?_
 refine wwgc h2 ?_
 refine ww ?_
 exact wwr
theorem longestP_spec (f:Int):Spec Tryz.prog 187 [.d (.int .i64 f)] [] (fun r h'=>r=.d (.int .i64 (mostN f))∧h'=[]):=by
 unfold mostN
 refine qAb hT Tryz.func187 rfl rfl rfl rfl ?_;intro E hE
 refine ww ?_
 refine qAa rfl (fun c1=>?_) (fun c1=>?_)
 ·rw [if_pos (by simpa using c1)]
  refine ww ?_
  exact wwr
 rw [if_neg (by simpa using c1)]
 refine ww ?_
 refine qAa rfl (fun c2=>?_) (fun c2=>?_)
 ·rw [if_pos (by simpa using c2)]
  refine ww ?_
  exact wwr
 rw [if_neg (by simpa using c2)]
 refine ww ?_
 exact wwr
def layD (f:Int):List Int :=
 if f=1 then [0,0,2,0,2,3,2,0,30,0,5,9,0,14,1,1,15,3,1,0,6,1,6,1,1,7,1,1,8,6,1,14,1,0,15,15,0,0,0,1,18,11,1,29,1]
 else if f=2 then [0,0,2,0,2,3,0,5,31,1,0,9,1,9,1,1,10,3,1,13,6,1,19,1,1,20,1,1,21,6,1,27,1,1,28,7,0,0,0,0,0,0,1,35,1]
 else if f=3 then [0,0,2,0,2,3,0,5,39,1,0,9,1,9,1,1,10,3,1,13,6,1,19,1,1,20,1,1,21,6,1,27,1,1,28,14,1,42,1,0,0,0,1,43,1]
 else List.replicate 45 0
def layN (f:Int):Int:=if f=1 then 3 else if f=2∨f=3 then 2 else 0
def layW (f:Int):Int:=if f=1 then 30 else if f=2 then 36 else if f=3 then 44 else 0
def intsA (l:List Int):List AV:=l.map fun n=>.d (.int .i64 n)
theorem layout_spec (f:Int):Spec Tryz.prog 120 [.d (.int .i64 f)] [] (fun r h'=>r=.tup [.agg (intsA (layD f)),.d (.int .i64 (layN f)),.d (.int .i64 (layW f))]∧h'=[]):=by
 by_cases h3:f=3
 ·subst h3
  refine qAb hT Tryz.func120 rfl rfl rfl rfl ?_;intro E hE
  refine ww ?_
  refine qAa rfl (fun c1=>?_) (fun c1=>?_)
  rotate_left
  ·exact absurd c1 (by simp)
  refine ww ?_
  refine qAa rfl (fun c2=>?_) (fun c2=>?_)
  rotate_left
  ·exact absurd c2 (by simp)
  refine ww ?_
  refine qAa rfl (fun c3=>?_) (fun c3=>?_)
  ·exact absurd c3 (by simp)
  refine ww ?_
  refine qAa rfl (fun c4=>?_) (fun c4=>?_)
  rotate_left
  ·exact absurd c4 (by simp)
  refine ww ?_
  first | refine qAe (qAc (qAl hT rfl rfl rfl rfl (by decide))) rfl ?_ | refine qAs (qAc (qAl hT rfl rfl rfl rfl (by decide))) rfl rfl ?_
  refine ww ?_
  first | refine qAe (qAc (qAl hT rfl rfl rfl rfl (by decide))) rfl ?_ | refine qAs (qAc (qAl hT rfl rfl rfl rfl (by decide))) rfl rfl ?_
  refine ww ?_
  first | refine qAe (qAc (qAl hT rfl rfl rfl rfl (by decide))) rfl ?_ | refine qAs (qAc (qAl hT rfl rfl rfl rfl (by decide))) rfl rfl ?_
  refine ww ?_
  exact rx ⟨rfl,rfl⟩
 by_cases h2:f=2
 ·subst h2
  refine qAb hT Tryz.func120 rfl rfl rfl rfl ?_;intro E hE
  refine ww ?_
  refine qAa rfl (fun c1=>?_) (fun c1=>?_)
  ·exact absurd c1 (by simp)
  refine ww ?_
  refine qAa rfl (fun c2=>?_) (fun c2=>?_)
  rotate_left
  ·exact absurd c2 (by simp)
  refine ww ?_
  refine qAa rfl (fun c3=>?_) (fun c3=>?_)
  rotate_left
  ·exact absurd c3 (by simp)
  refine ww ?_
  refine qAa rfl (fun c4=>?_) (fun c4=>?_)
  ·exact absurd c4 (by simp)
  refine ww ?_
  exact rx ⟨rfl,rfl⟩
 by_cases h1:f=1
 ·subst h1
  refine qAb hT Tryz.func120 rfl rfl rfl rfl ?_;intro E hE
  refine ww ?_
  refine qAa rfl (fun c1=>?_) (fun c1=>?_)
  ·exact absurd c1 (by simp)
  refine ww ?_
  refine qAa rfl (fun c2=>?_) (fun c2=>?_)
  ·exact absurd c2 (by simp)
  refine ww ?_
  refine qAa rfl (fun c3=>?_) (fun c3=>?_)
  rotate_left
  ·exact absurd c3 (by simp)
  refine ww ?_
  exact rx ⟨rfl,rfl⟩
 have e1:layD f=List.replicate 45 0:=by unfold layD;rw [if_neg h1,if_neg h2,if_neg h3]
 have e2:layN f=0:=by unfold layN;rw [if_neg h1,if_neg (by omega)]
 have e3:layW f=0:=by unfold layW;rw [if_neg h1,if_neg h2,if_neg h3]
 rw [e1,e2,e3]
 refine qAb hT Tryz.func120 rfl rfl rfl rfl ?_;intro E hE
 refine ww ?_
 refine qAa rfl (fun c1=>?_) (fun c1=>?_)
 ·exact absurd c1 (by simp [h3])
 refine ww ?_
 refine qAa rfl (fun c2=>?_) (fun c2=>?_)
 ·exact absurd c2 (by simp [h2])
 refine ww ?_
 refine qAa rfl (fun c3=>?_) (fun c3=>?_)
 ·exact absurd c3 (by simp [h1])
 refine ww ?_
 exact rx ⟨rfl,rfl⟩
def mostB (i:Nat):Int:=if i=0 then 99 else if i=1 then 12 else 31
theorem mostB_at {i:Nat} (h:i < 3):([AV.d (.int .i64 99),.d (.int .i64 12),.d (.int .i64 31)]:List AV)[((i:Int)).toNat]?=some (.d (.int .i64 (mostB i))):=by
 match i,h with
 | 0,_=>rfl
 | 1,_=>rfl
 | 2,_=>rfl
def pairAt (s:List UInt8) (i:Nat):Int:=pairF [s.getD (2*i) 0,s.getD (2*i+1) 0]
def okB (s:List UInt8) (i:Nat):Bool:=decide (pairAt s i = -1∨(pairAt s i > -2∧pairAt s i≤mostB i∧(i=0∨pairAt s i≠0)))
def okR (s:List UInt8) (i:Nat):Bool:=match i with
 | 0=>okB s 0&&(okB s 1&&okB s 2)
 | 1=>okB s 1&&okB s 2
 | 2=>okB s 2
 | _=>true
theorem okR_step {s:List UInt8} {i:Nat} (h:i < 3):okR s i=(okB s i&&okR s (i+1)):=by
 match i,h with
 | 0,_=>rfl
 | 1,_=>rfl
 | 2,_=>simp [okR]
theorem pairF_two (a b:UInt8):pairF [a,b]=if a=60∧b=60 then -1 else if isDig a=true∧isDig b=true then 10*(bI a-48)+(bI b-48) else -2:=by
 unfold pairF pairI
 simp
theorem pairF_range (a b:UInt8):pairF [a,b] = -1∨pairF [a,b] = -2∨(0≤pairF [a,b]∧pairF [a,b]≤99):=by
 rw [pairF_two]
 split
 ·exact .inl rfl
 ·split
  ·rename_i h
   have h1:=(qBm a).1 h.1
   have h2:=(qBm b).1 h.2
   right;right;omega
  ·exact .inr (.inl rfl)
theorem birth_okR {s:List UInt8} (h:s.length=6):birthF s=okR s 0:=by
 obtain ⟨a,b,c,d,e,f,rfl⟩:=six h
 have r0:=pairF_range a b
 have r1:=pairF_range c d
 have r2:=pairF_range e f
 have hb:birthF [a,b,c,d,e,f]=(decide (6=6)&&(decide (pairF [a,b] > -2)&&(decide (pairF [c,d] = -1∨1≤pairF [c,d]∧pairF [c,d]≤12)&&decide (pairF [e,f] = -1∨1≤pairF [e,f]∧pairF [e,f]≤31)))):=rfl
 have e0:pairAt [a,b,c,d,e,f] 0=pairF [a,b]:=rfl
 have e1:pairAt [a,b,c,d,e,f] 1=pairF [c,d]:=rfl
 have e2:pairAt [a,b,c,d,e,f] 2=pairF [e,f]:=rfl
 have m0:mostB 0=99:=rfl
 have m1:mostB 1=12:=rfl
 have m2:mostB 2=31:=rfl
 have hR:okR [a,b,c,d,e,f] 0=(okB [a,b,c,d,e,f] 0&&(okB [a,b,c,d,e,f] 1&&okB [a,b,c,d,e,f] 2)):=rfl
 rw [hb,hR]
 unfold okB
 rw [e0,e1,e2,m0,m1,m2]
 generalize pairF [a,b]=x at *
 generalize pairF [c,d]=y at *
 generalize pairF [e,f]=z at *
 rw [Bool.eq_iff_iff]
 simp only [Bool.and_eq_true,decide_eq_true_eq]
 simp only [true_and,true_or,and_true]
 omega
theorem two_cut {s:List UInt8} {i:Nat} (hs:s.length=6) (h:i < 3):cutL s (2*(i:Int)) (2*(i:Int)+2)=[s.getD (2*i) 0,s.getD (2*i+1) 0]:=by
 obtain ⟨a,b,c,d,e,f,rfl⟩:=six hs
 match i,h with
 | 0,_=>rfl
 | 1,_=>rfl
 | 2,_=>rfl
theorem bornP_spec (s:List UInt8) (hs:s.length≤1000000):Spec Tryz.prog 188 [.d (.str s)] [] (fun r h'=>r=.d (.bool (birthF s))∧h'=[]):=by
 by_cases h6:s.length=6
 case neg =>
  have hb:birthF s=false:=by unfold birthF;rw [decide_eq_false h6,Bool.false_and]
  rw [hb]
  refine qAb hT Tryz.func188 rfl rfl rfl rfl ?_;intro E hE
  refine ww ?_
  refine AW_scope ?_
  refine ww ?_
  refine qAa rfl (fun c1=>?_) (fun c1=>?_)
  ·refine ww ?_
   exact wwr
  ·exact absurd c1 (by simp;omega)
 rw [birth_okR h6]
 generalize hfin:okR s 0=fin
 refine qAb hT Tryz.func188 rfl rfl rfl rfl ?_;intro E hE
 refine ww ?_
 refine AW_scope ?_
 refine ww ?_
 refine qAa rfl (fun c1=>?_) (fun c1=>?_)
 ·exact absurd c1 (by rw [h6];simp)
 refine ww ?_
 refine AW_label ?_
 refine ww ?_
 refine qAn (ι:=Nat) (fun i=>[(0,.d (.str s)),(11,.agg [.d (.int .i64 99),.d (.int .i64 12),.d (.int .i64 31)]),(12,.d (.int .i64 (i:Int)))]) (fun _=>[]) (fun i=>i≤3∧okR s i=fin) (fun i=>3-i) 0 ⟨by omega,hfin⟩ ⟨.refl _,.refl _,.refl _,trivial⟩ (HLe.refl _) ?_
 rintro i ⟨hi,hg⟩
 have hwr:IntKind.i64.wrap ((i:Int)+1)=((i+1:Nat):Int):=by rw [qAd (by omega)];simp
 refine ww ?_
 refine qAa rfl (fun c2=>?_) (fun c2=>?_)
 rotate_left
 ·have c2':i=3:=by simp at c2;omega
  subst c2'
  have:fin=true:=hg.symm
  subst this
  refine ww ?_
  exact wwr
 have c2':i < 3:=by simp at c2;omega
 have hst:=okR_step (s:=s) c2'
 rw [hg] at hst
 have hcut:=two_cut h6 c2'
 have hp2:=pairF_two (s.getD (2*i) 0) (s.getD (2*i+1) 0)
 have hw2:IntKind.i64.wrap (2*(i:Int))=2*(i:Int):=qAd (by omega)
 have hw3:IntKind.i64.wrap (IntKind.i64.wrap (2*(i:Int))+2)=2*(i:Int)+2:=by rw [hw2,qAd (by omega)]
 have hmb:mostB i≤99:=by unfold mostB;split <;> (try split) <;> omega
 have hmi:=mostB_at c2'
 have hokb:okB s i=decide (pairAt s i = -1∨(pairAt s i > -2∧pairAt s i≤mostB i∧(i=0∨pairAt s i≠0))):=rfl
 unfold pairAt at hokb
 generalize mostB i=mb at hmb hmi hokb
 refine ww ?_
 refine qAe (qAc (arrIdx_ok hT rfl rfl rfl rfl ⟨by omega,by omega⟩ hmi)) rfl ?_
 refine ww ?_
 refine qAn (ι:=Nat) (fun k=>[(0,.d (.str s)),(11,.agg [.d (.int .i64 99),.d (.int .i64 12),.d (.int .i64 31)]),(12,.d (.int .i64 (i:Int))),(3,.d (.int .i64 (i:Int))),(4,.d (.int .i64 mb)),
   (5,.d (.int .i64 (if k=0 then 0 else if k=1 then bI (s.getD (2*i) 0)-48 else 10*(bI (s.getD (2*i) 0)-48)+(bI (s.getD (2*i+1) 0)-48)))),(16,.d (.int .i64 (k:Int)))]) (fun _=>[])
  (fun k=>k≤2∧(1≤k→isDig (s.getD (2*i) 0)=true)∧(2≤k→isDig (s.getD (2*i+1) 0)=true)) (fun k=>2-k) 0 ⟨by omega,fun h=>by omega,fun h=>by omega⟩ ⟨.refl _,.refl _,.refl _,.refl _,.refl _,.refl _,.refl _,trivial⟩ (HLe.refl _) ?_
 rintro k ⟨hk,hd0,hd1⟩
 have hwk:IntKind.i64.wrap ((k:Int)+1)=((k+1:Nat):Int):=by rw [qAd (by omega)];simp
 refine ww ?_
 refine qAa rfl (fun c3=>?_) (fun c3=>?_)
 ·have c3':k < 2:=by simp at c3;omega
  have hwi:IntKind.i64.wrap (IntKind.i64.wrap (2*(i:Int))+(k:Int))=((2*i+k:Nat):Int):=by rw [hw2,qAd (by omega)];omega
  have hsa:strAt s (IntKind.i64.wrap (IntKind.i64.wrap (2*(i:Int))+(k:Int)))=bI (s.getD (2*i+k) 0):=by
   rw [hwi,qBu (by omega),List.getD_eq_getElem?_getD,List.getElem?_eq_getElem (by omega)];rfl
  have hbr:=bI_range (s.getD (2*i+k) 0)
  have hdg:=qBm (s.getD (2*i+k) 0)
  refine ww ?_
  rw [hsa]
  refine qAa rfl (fun c4=>?_) (fun c4=>?_)
  ·have c4':isDig (s.getD (2*i+k) 0)=true:=hdg.2 (by simp only [Bool.and_eq_true,decide_eq_true_eq] at c4;omega)
   have hdi:=hdg.1 c4'
   have hq:k=0∨k=1:=by omega
   rcases hq with rfl | rfl
   ·have hn:IntKind.i64.wrap (IntKind.i64.wrap (10*0)+IntKind.i64.wrap (IntKind.u8.wrap (bI (s.getD (2*i+0) 0)-48)))=bI (s.getD (2*i) 0)-48:=by
     rw [wrapu8 (by omega),qAd (n:=10*0) (by omega),qAd (n:=bI (s.getD (2*i+0) 0)-48) (by omega),qAd (by omega)];simp
    refine ww ?_
    exact ⟨1,⟨by omega,fun _=>c4',fun h=>by omega⟩,by omega,⟨.refl _,.refl _,.refl _,.refl _,.refl _,.int hn,.int hwk,trivial⟩,HLe.refl _⟩
   ·have hd0':=(qBm _).1 (hd0 (by omega))
    have hn:IntKind.i64.wrap (IntKind.i64.wrap (10*(bI (s.getD (2*i) 0)-48))+IntKind.i64.wrap (IntKind.u8.wrap (bI (s.getD (2*i+1) 0)-48)))=10*(bI (s.getD (2*i) 0)-48)+(bI (s.getD (2*i+1) 0)-48):=by
     rw [wrapu8 (by omega),qAd (n:=10*(bI (s.getD (2*i) 0)-48)) (by omega),qAd (n:=bI (s.getD (2*i+1) 0)-48) (by omega),qAd (by omega)]
    refine ww ?_
    exact ⟨2,⟨by omega,fun _=>hd0 (by omega),fun _=>c4'⟩,by omega,⟨.refl _,.refl _,.refl _,.refl _,.refl _,.int hn,.int hwk,trivial⟩,HLe.refl _⟩
  ·have c4':isDig (s.getD (2*i+k) 0)=false:=by
    cases hx:isDig (s.getD (2*i+k) 0) with
    | false=>rfl
    | true=>have:=hdg.1 hx;simp only [Bool.and_eq_false_iff,decide_eq_false_iff_not] at c4;omega
   have hnd:¬ (isDig (s.getD (2*i) 0)=true∧isDig (s.getD (2*i+1) 0)=true):=fun h=>by
    have hq:k=0∨k=1:=by omega
    rcases hq with rfl | rfl
    ·rw [Nat.add_zero] at c4';rw [c4'] at h;exact absurd h.1 (by simp)
    ·rw [c4'] at h;exact absurd h.2 (by simp)
   rw [if_neg hnd] at hp2
   refine ww ?_
   rw [hw3,hw2,hcut]
   refine qAa rfl (fun c5=>?_) (fun c5=>?_)
   ·have c5':s.getD (2*i) 0=60∧s.getD (2*i+1) 0=60:=by
     have h:([s.getD (2*i) 0,s.getD (2*i+1) 0]:List UInt8)=[60,60]:=eq_of_beq c5
     simpa using h
    rw [if_pos c5'] at hp2
    have hok:okB s i=true:=by rw [hokb,hp2];simp
    rw [hok,Bool.true_and] at hst
    refine ww ?_
    exact ⟨i+1,⟨c2',hst.symm⟩,by omega,⟨.refl _,.refl _,.int hwr,trivial⟩,HLe.refl _⟩
   ·have c5':¬ (s.getD (2*i) 0=60∧s.getD (2*i+1) 0=60):=fun h=>by
     rw [h.1,h.2] at c5;exact absurd c5 (by decide)
    rw [if_neg c5'] at hp2
    have hok:okB s i=false:=by rw [hokb,hp2];simp
    rw [hok,Bool.false_and] at hst
    subst hst
    refine ww ?_
    exact wwr
 ·have c3':k=2:=by simp at c3;omega
  subst c3'
  have h0:=hd0 (by omega)
  have h1:=hd1 (by omega)
  have h0':=(qBm _).1 h0
  have h1':=(qBm _).1 h1
  have hne:¬ (s.getD (2*i) 0=60∧s.getD (2*i+1) 0=60):=fun h=>by
   rw [h.1] at h0;exact absurd h0 (by decide)
  rw [if_neg hne,if_pos ⟨h0,h1⟩] at hp2
  rw [if_neg (by omega),if_neg (by omega)]
  generalize hpe:10*(bI (s.getD (2*i) 0)-48)+(bI (s.getD (2*i+1) 0)-48)=p at hp2
  have hpr:0≤p∧p≤99:=by omega
  rw [hp2] at hokb
  refine ww ?_
  refine qAa rfl (fun c4=>?_) (fun c4=>?_)
  ·have hok:okB s i=false:=by
    rw [hokb]
    apply decide_eq_false
    simp at c4
    omega
   rw [hok,Bool.false_and] at hst
   subst hst
   refine ww ?_
   exact wwr
  ·have hok:okB s i=true:=by
    rw [hokb]
    apply decide_eq_true
    simp at c4
    omega
   rw [hok,Bool.true_and] at hst
   refine ww ?_
   exact ⟨i+1,⟨c2',hst.symm⟩,by omega,⟨.refl _,.refl _,.int hwr,trivial⟩,HLe.refl _⟩
end Tdoc
/- The program checks a zone: zone.Valid = validZ. -/
set_option maxHeartbeats 8000000
set_option maxRecDepth 100000
set_option linter.unusedVariables false
set_option linter.unusedSimpArgs false
namespace Tdoc
open Go Go.Proofs
theorem plain_eq:∀ (s:List UInt8),plainF s=(validS s&&!s.any (· == 60))
 | []=>rfl
 | c::l=>by
  have ih:=plain_eq l
  unfold plainF at ih ⊢
  rw [List.all_cons,ih,validS,List.any_cons]
  by_cases h1:c=60
  ·subst h1;simp
  ·have:(c == 60)=false:=by simpa using h1
   rw [this]
   by_cases h2:0≤valC (bI c) <;> simp [h1,h2]
theorem ZValid_walk (z:Zon) (hz:zLen z) (L:List AV) (hL:L.length=45) (hLl:lowL 0 L=true) (ln lw w11 w13:Int) (h35:L[35]?=some (.d (.int .i64 w11))) (h41:L[41]?=some (.d (.int .i64 w13)))
  (hly:Spec Tryz.prog 120 [.d (.int .i64 z.fmt)] [] (fun r h'=>r=.tup [.agg L,.d (.int .i64 ln),.d (.int .i64 lw)]∧h'=[])) (v:Int)
  (hv:v=if ln=0∨lettersF z.kind 2=false∨lettersF z.state 3=false∨nameL true z.sur=false∨z.sur=[]∨nameL true z.giv=false∨z.num=[]∨validS z.num=false∨z.num.any (· == 60)=true then 14
   else if (z.num.length:Int) > mostN z.fmt then 2 else if lettersF z.nat 3=false then 14 else if birthF z.bir=false then 8 else if z.sex≠[77]∧z.sex≠[70]∧z.sex≠[60] then 14 else if (dayParse z.exp 2000).2≠0 then 8
   else if extraF z.opt=false∨extraF z.sec=false∨(z.fmt≠1∧z.sec≠[]) then 14 else if (z.opt.length:Int)+(if (z.num.length:Int) > 9 then (z.num.length:Int)-9+2 else 0) > w11∨(z.sec.length:Int) > w13 then 2 else 0) :
  Spec Tryz.prog 119 [zAV z] [] (fun r h'=>r=.d (.int .i64 v)∧h'=[]):=by
 obtain ⟨f,ki,st,su,gi,nu,na,bi,se,ex,op,sc⟩:=z
 obtain ⟨z1,z2,z3,z4,z5,z6,z7,z8,z9,z10,z11⟩:=hz
 simp only at z1 z2 z3 z4 z5 z6 z7 z8 z9 z10 z11 hly hv
 have g1:=lettersP_spec ki 2 (by omega)
 have g2:=lettersP_spec st 3 (by omega)
 have g3:=NameP_spec su (by omega)
 have g4:=NameP_spec gi (by omega)
 have g5:=ValidP_spec nu (by omega)
 have g6:=Contains60_spec nu
 rw [index_in] at g6
 have g7:=longestP_spec f
 have g8:=lettersP_spec na 3 (by omega)
 have g9:=bornP_spec bi (by omega)
 have g10:=dayParseP_spec ex 2000 (by omega)
 have g11:=freeP_spec op (by omega)
 have g12:=freeP_spec sc (by omega)
 generalize lettersF ki 2=b1 at g1 hv
 generalize lettersF st 3=b2 at g2 hv
 generalize nameL true su=b3 at g3 hv
 generalize nameL true gi=b4 at g4 hv
 generalize validS nu=b5 at g5 hv
 generalize nu.any (· == 60)=b6 at g6 hv
 generalize mostN f=mo at g7 hv
 generalize lettersF na 3=b8 at g8 hv
 generalize birthF bi=b9 at g9 hv
 generalize dayParse ex 2000=dp at g10 hv
 generalize extraF op=b11 at g11 hv
 generalize extraF sc=b12 at g12 hv
 unfold zAV zCells
 simp only
 refine qAb hT Tryz.func119 rfl rfl rfl rfl ?_;intro E hE
 refine ww ?_
 refine qAe (callS0 rfl rfl hly rfl rfl (by simp [low,lowL,hLl])) rfl ?_
 refine ww ?_
 refine qAe (qAc (extractA_ok rfl rfl)) rfl ?_
 refine ww ?_
 refine AWk_op0 (storeAgg_ok hT rfl rfl rfl rfl rfl hL (by exact Nat.le_refl 45) (setRun_full (by rw [hL];rfl))) rfl ?_
 refine ww ?_
 refine wwc g10 ?_
 refine ww ?_
 have r14:∀ {a b:Int} {p:Prop} [Decidable p],p→(if p then a else b)=a:=fun h=>if_pos h
 refine qAa rfl (fun c1=>?_) (fun c1=>?_)
 ·have e:ln=0:=by simpa using c1
  have hv':v=14:=by rw [hv,if_pos (.inl e)]
  rw [hv']
  refine ww ?_
  refine qAa rfl (fun d=>?_) (fun d=>?_)
  ·refine ww ?_
   exact wwr
  ·exact absurd (c1.symm.trans d) (by simp)
 have e1:ln≠0:=by simpa using c1
 refine ww ?_
 refine wwc g1 ?_
 refine ww ?_
 refine qAa rfl (fun c2=>?_) (fun c2=>?_)
 ·have e:b1=false:=by simpa using c2
  have hv':v=14:=by rw [hv,if_pos (by simp [e])]
  rw [hv']
  refine ww ?_
  refine qAa rfl (fun d=>?_) (fun d=>?_)
  ·refine ww ?_
   exact wwr
  ·exact absurd (c2.symm.trans d) (by simp)
 have e2:b1=true:=by simpa using c2
 refine ww ?_
 refine wwc g2 ?_
 refine ww ?_
 refine qAa rfl (fun c3=>?_) (fun c3=>?_)
 ·have e:b2=false:=by simpa using c3
  have hv':v=14:=by rw [hv,if_pos (by simp [e])]
  rw [hv']
  refine ww ?_
  refine qAa rfl (fun d=>?_) (fun d=>?_)
  ·refine ww ?_
   exact wwr
  ·exact absurd (c3.symm.trans d) (by simp)
 have e3:b2=true:=by simpa using c3
 refine ww ?_
 refine wwc g3 ?_
 refine ww ?_
 refine qAa rfl (fun c4=>?_) (fun c4=>?_)
 ·have e:b3=false∨su=[]:=by simpa using c4
  have hv':v=14:=by rw [hv,if_pos (by rcases e with e | e <;> simp [e])]
  rw [hv']
  refine ww ?_
  refine qAa rfl (fun d=>?_) (fun d=>?_)
  ·refine ww ?_
   exact wwr
  ·exact absurd (c4.symm.trans d) (by simp)
 have e4:b3=true∧su≠[]:=by simpa using c4
 refine ww ?_
 refine wwc g4 ?_
 refine ww ?_
 refine qAa rfl (fun c5=>?_) (fun c5=>?_)
 ·have e:b4=false:=by simpa using c5
  have hv':v=14:=by rw [hv,if_pos (by simp [e])]
  rw [hv']
  refine ww ?_
  exact wwr
 have e5:b4=true:=by simpa using c5
 refine ww ?_
 refine qAa rfl (fun c6=>?_) (fun c6=>?_)
 ·have e:nu=[]:=by simpa using c6
  have hv':v=14:=by rw [hv,if_pos (by simp [e])]
  rw [hv']
  refine ww ?_
  refine qAa rfl (fun d=>?_) (fun d=>?_)
  ·refine ww ?_
   exact wwr
  ·exact absurd (c6.symm.trans d) (by simp)
 have e6:nu≠[]:=by simpa using c6
 refine ww ?_
 refine wwc g5 ?_
 refine ww ?_
 refine qAa rfl (fun c7=>?_) (fun c7=>?_)
 ·have e:b5=false:=by simpa using c7
  have hv':v=14:=by rw [hv,if_pos (by simp [e])]
  rw [hv']
  refine ww ?_
  refine qAa rfl (fun d=>?_) (fun d=>?_)
  ·refine ww ?_
   exact wwr
  ·exact absurd (c7.symm.trans d) (by simp)
 have e7:b5=true:=by simpa using c7
 refine ww ?_
 refine wwc g6 ?_
 refine ww ?_
 refine qAa rfl (fun c8=>?_) (fun c8=>?_)
 ·have hv':v=14:=by rw [hv,if_pos (by simp [c8])]
  rw [hv']
  refine ww ?_
  exact wwr
 rw [if_neg (by simp [e1,e2,e3,e4,e5,e6,e7,c8])] at hv
 refine ww ?_
 refine wwc g7 ?_
 refine ww ?_
 refine qAa rfl (fun c9=>?_) (fun c9=>?_)
 ·have e:(nu.length:Int) > mo:=by simpa using c9
  have hv':v=2:=by rw [hv,if_pos e]
  rw [hv']
  refine ww ?_
  exact wwr
 rw [if_neg (by simpa using c9)] at hv
 refine ww ?_
 refine wwc g8 ?_
 refine ww ?_
 refine qAa rfl (fun c10=>?_) (fun c10=>?_)
 ·have e:b8=false:=by simpa using c10
  have hv':v=14:=by rw [hv,if_pos e]
  rw [hv']
  refine ww ?_
  exact wwr
 rw [if_neg (by simpa using c10)] at hv
 refine ww ?_
 refine wwc g9 ?_
 refine ww ?_
 refine qAa rfl (fun c11=>?_) (fun c11=>?_)
 ·have e:b9=false:=by simpa using c11
  have hv':v=8:=by rw [hv,if_pos e]
  rw [hv']
  refine ww ?_
  exact wwr
 rw [if_neg (by simpa using c11)] at hv
 refine ww ?_
 refine qAa rfl (fun c12=>?_) (fun c12=>?_)
 ·have e:se≠[77]∧se≠[70]∧se≠[60]:=by simpa [and_assoc] using c12
  have hv':v=14:=by rw [hv,if_pos e]
  rw [hv']
  refine ww ?_
  exact wwr
 rw [if_neg (by
  intro h
  have:(!(se == [77])&&!(se == [70])&&!(se == [60]))=true:=by simp [h]
  exact absurd (this.symm.trans c12) (by simp))] at hv
 refine ww ?_
 refine qAa rfl (fun c13=>?_) (fun c13=>?_)
 ·have e:dp.2≠0:=by simpa using c13
  have hv':v=8:=by rw [hv,if_pos e]
  rw [hv']
  refine ww ?_
  exact wwr
 rw [if_neg (by simpa using c13)] at hv
 refine ww ?_
 refine wwc g11 ?_
 refine ww ?_
 refine qAa rfl (fun c14=>?_) (fun c14=>?_)
 ·have e:b11=false:=by simpa using c14
  have hv':v=14:=by rw [hv,if_pos (.inl e)]
  rw [hv']
  refine ww ?_
  refine qAa rfl (fun d=>?_) (fun d=>?_)
  ·refine ww ?_
   exact wwr
  ·exact absurd (c14.symm.trans d) (by simp)
 have e14:b11=true:=by simpa using c14
 refine ww ?_
 refine wwc g12 ?_
 refine ww ?_
 refine qAa rfl (fun c15=>?_) (fun c15=>?_)
 ·have e:b12=false:=by simpa using c15
  have hv':v=14:=by rw [hv,if_pos (.inr (.inl e))]
  rw [hv']
  refine ww ?_
  refine qAa rfl (fun d=>?_) (fun d=>?_)
  ·refine ww ?_
   exact wwr
  ·exact absurd (c15.symm.trans d) (by simp)
 have e15:b12=true:=by simpa using c15
 refine ww ?_
 refine qAa rfl (fun c16=>?_) (fun c16=>?_)
 ·have e:f≠1∧sc≠[]:=by simpa using c16
  have hv':v=14:=by rw [hv,if_pos (.inr (.inr e))]
  rw [hv']
  refine ww ?_
  exact wwr
 have e16:¬ (f≠1∧sc≠[]):=by
  intro h
  simp [h] at c16
 rw [if_neg (by simp [e14,e15,e16])] at hv
 refine ww ?_
 refine qAa rfl (fun c17=>?_) (fun c17=>?_)
 ·have e17:(nu.length:Int) > 9:=by simpa using c17
  rw [if_pos e17] at hv
  have hw:IntKind.i64.wrap ((op.length:Int)+IntKind.i64.wrap (IntKind.i64.wrap ((nu.length:Int)-9)+2))=(op.length:Int)+((nu.length:Int)-9+2):=by
   rw [qAd (n:=(nu.length:Int)-9) (by omega),qAd (n:=(nu.length:Int)-9+2) (by omega),qAd (by omega)]
  refine ww ?_
  refine qAe (qAc (qAl hT rfl rfl rfl rfl (by decide))) rfl ?_
  refine ww ?_
  refine qAe (qBk hT rfl rfl rfl rfl rfl h35) rfl ?_
  refine ww ?_
  refine qAy rfl rfl rfl (fun hg=>⟨(sg (C:=True) hg).1,qAc (qAl hT rfl rfl rfl rfl (by decide))⟩) ?_
  refine ww ?_
  refine qAy rfl rfl rfl (fun hg=>⟨(sg (C:=True) hg).1,qBk hT rfl rfl rfl rfl rfl h41⟩) ?_
  refine ww ?_
  refine qAa rfl (fun c18=>?_) (fun c18=>?_)
  ·have e:(op.length:Int)+((nu.length:Int)-9+2) > w11∨(sc.length:Int) > w13:=by
    rw [hw] at c18
    simpa using c18
   have hv':v=2:=by rw [hv,if_pos e]
   rw [hv']
   refine ww ?_
   exact wwr
  ·have e:¬ ((op.length:Int)+((nu.length:Int)-9+2) > w11∨(sc.length:Int) > w13):=by
    rw [hw] at c18
    simpa using c18
   have hv':v=0:=by rw [hv,if_neg e]
   rw [hv']
   refine ww ?_
   exact wwr
 ·have e17:¬ (nu.length:Int) > 9:=by simpa using c17
  rw [if_neg e17] at hv
  refine ww ?_
  refine qAe (qAc (qAl hT rfl rfl rfl rfl (by decide))) rfl ?_
  refine ww ?_
  refine qAe (qBk hT rfl rfl rfl rfl rfl h35) rfl ?_
  refine ww ?_
  refine qAy rfl rfl rfl (fun hg=>⟨(sg (C:=True) hg).1,qAc (qAl hT rfl rfl rfl rfl (by decide))⟩) ?_
  refine ww ?_
  refine qAy rfl rfl rfl (fun hg=>⟨(sg (C:=True) hg).1,qBk hT rfl rfl rfl rfl rfl h41⟩) ?_
  refine ww ?_
  refine qAa rfl (fun c18=>?_) (fun c18=>?_)
  ·have e:(op.length:Int)+0 > w11∨(sc.length:Int) > w13:=by
    rw [Int.add_zero]
    simpa using c18
   have hv':v=2:=by rw [hv,if_pos e]
   rw [hv']
   refine ww ?_
   exact wwr
  ·have e:¬ ((op.length:Int)+0 > w11∨(sc.length:Int) > w13):=by
    rw [Int.add_zero]
    simpa using c18
   have hv':v=0:=by rw [hv,if_neg e]
   rw [hv']
   refine ww ?_
   exact wwr
theorem wid_sum {f o:Int} {nn:Nat}:o+(if (nn:Int) > 9 then (nn:Int)-9+2 else 0) > (if f=1 then 15 else if f=2 then 7 else 14)↔o > (if f=1 then 15 else if f=2 then 7 else 14)-(if nn > 9 then (nn:Int)-9+2 else 0):=by
 split <;> split <;> split <;> (try split) <;> omega
theorem ZValid_spec (z:Zon) (hz:zLen z):Spec Tryz.prog 119 [zAV z] [] (fun r h'=>r=.d (.int .i64 (validZ z))∧h'=[]):=by
 have hlay:=layout_spec z.fmt
 have hp:plainF z.num=false↔(validS z.num=false∨z.num.any (· == 60)=true):=by
  rw [plain_eq]
  cases validS z.num <;> cases z.num.any (· == 60) <;> simp
 have key:∀ w11 w13:Int,(layN z.fmt=0↔(z.fmt < 1∨z.fmt > 3))→(¬ (z.fmt < 1∨z.fmt > 3)→w11=(if z.fmt=1 then 15 else if z.fmt=2 then 7 else 14)∧(z.fmt=1→w13=11)∧(z.fmt≠1→w13=0))→validZ z=_:=fun w11 w13 hn hw=>by
  exact (show validZ z=if layN z.fmt=0∨lettersF z.kind 2=false∨lettersF z.state 3=false∨nameL true z.sur=false∨z.sur=[]∨nameL true z.giv=false∨z.num=[]∨validS z.num=false∨z.num.any (· == 60)=true then 14
   else if (z.num.length:Int) > mostN z.fmt then 2 else if lettersF z.nat 3=false then 14 else if birthF z.bir=false then 8 else if z.sex≠[77]∧z.sex≠[70]∧z.sex≠[60] then 14 else if (dayParse z.exp 2000).2≠0 then 8
   else if extraF z.opt=false∨extraF z.sec=false∨(z.fmt≠1∧z.sec≠[]) then 14 else if (z.opt.length:Int)+(if (z.num.length:Int) > 9 then (z.num.length:Int)-9+2 else 0) > w11∨(z.sec.length:Int) > w13 then 2 else 0 by
   unfold validZ
   by_cases q0:z.fmt < 1∨z.fmt > 3
   ·rw [if_pos (by rcases q0 with q | q;exact .inl q;exact .inr (.inl q)),if_pos (.inl (hn.2 q0))]
   obtain ⟨h1,h2,h3⟩:=hw q0
   have q0':¬ layN z.fmt=0:=fun h=>q0 (hn.1 h)
   have hA:(z.fmt < 1∨z.fmt > 3∨lettersF z.kind 2=false∨lettersF z.state 3=false∨nameL true z.sur=false∨z.sur=[]∨nameL true z.giv=false∨z.num=[]∨plainF z.num=false) ↔
     (layN z.fmt=0∨lettersF z.kind 2=false∨lettersF z.state 3=false∨nameL true z.sur=false∨z.sur=[]∨nameL true z.giv=false∨z.num=[]∨validS z.num=false∨z.num.any (· == 60)=true):=by
    rw [hp]
    constructor
    ·rintro (h | h | h)
     ·exact absurd (.inl h) q0
     ·exact absurd (.inr h) q0
     ·exact .inr h
    ·rintro (h | h)
     ·exact absurd h q0'
     ·exact .inr (.inr h)
   have hB:(extraF z.opt=false∨extraF z.sec=false∨(z.sec≠[]∧z.fmt≠1))↔(extraF z.opt=false∨extraF z.sec=false∨(z.fmt≠1∧z.sec≠[])):=by rw [and_comm (a:=z.sec≠[])]
   simp only [hA,hB]
   by_cases q1:extraF z.opt=false∨extraF z.sec=false∨(z.fmt≠1∧z.sec≠[])
   ·simp only [if_pos q1]
   have hC:((z.opt.length:Int) > roomF z∨(z.sec.length:Int) > 11)↔((z.opt.length:Int)+(if (z.num.length:Int) > 9 then (z.num.length:Int)-9+2 else 0) > w11∨(z.sec.length:Int) > w13):=by
    rw [h1,wid_sum]
    unfold roomF
    by_cases q2:z.fmt=1
    ·rw [h2 q2]
    ·have:z.sec=[]:=Classical.byContradiction fun h=>q1 (.inr (.inr ⟨q2,h⟩))
     rw [h3 q2,this]
     simp
   simp only [hC])
 by_cases f1:z.fmt=1
 ·have hk:=key 15 11 (by rw [f1];decide) (fun _=>⟨by rw [f1];rfl,fun _=>rfl,fun h=>absurd f1 h⟩)
  exact ZValid_walk z hz _ (by rw [f1];rfl) (by rw [f1];rfl) _ _ 15 11 (by rw [f1];rfl) (by rw [f1];rfl) hlay _ hk
 by_cases f2:z.fmt=2
 ·have hk:=key 7 0 (by rw [f2];decide) (fun _=>⟨by rw [f2];rfl,fun h=>absurd h f1,fun _=>rfl⟩)
  exact ZValid_walk z hz _ (by rw [f2];rfl) (by rw [f2];rfl) _ _ 7 0 (by rw [f2];rfl) (by rw [f2];rfl) hlay _ hk
 by_cases f3:z.fmt=3
 ·have hk:=key 14 0 (by rw [f3];decide) (fun _=>⟨by rw [f3];rfl,fun h=>absurd h f1,fun _=>rfl⟩)
  exact ZValid_walk z hz _ (by rw [f3];rfl) (by rw [f3];rfl) _ _ 14 0 (by rw [f3];rfl) (by rw [f3];rfl) hlay _ hk
 have hl:layD z.fmt=List.replicate 45 0:=by unfold layD;rw [if_neg f1,if_neg f2,if_neg f3]
 have hk:=key 0 0 (by unfold layN;rw [if_neg f1,if_neg (by omega)];simp;omega) (fun h=>absurd (by omega:z.fmt < 1∨z.fmt > 3) h)
 exact ZValid_walk z hz _ (by rw [hl];rfl) (by rw [hl];rfl) _ _ 0 0 (by rw [hl];rfl) (by rw [hl];rfl) hlay _ hk
end Tdoc
/- The program's check digits. -/
set_option maxHeartbeats 8000000
set_option maxRecDepth 100000
set_option linter.unusedVariables false
set_option linter.unusedSimpArgs false
namespace Tdoc
open Go Go.Proofs
theorem wgtC_off (i:Nat):([AV.d (.int .i64 7),.d (.int .i64 3),.d (.int .i64 1)]:List AV)[0+(Int.tmod (i:Int) 3).toNat*1]?=some (.d (.int .i64 (wgtC i))):=by
 rw [Nat.zero_add,Nat.mul_one];exact wgtC_at i
theorem DigitP_spec (s:List UInt8) (hs:s.length≤1000000):Spec Tryz.prog 197 [.d (.str s)] [] (fun r h'=>r=.tup [.d (.str (digitF s).1),.d (.int .i64 (digitF s).2)]∧h'=[]):=by
 have hv:=ValidP_spec s hs
 unfold digitF
 by_cases hvs:validS s=true
 case neg =>
  rw [if_neg hvs]
  have hvf:validS s=false:=by simpa using hvs
  rw [hvf] at hv
  refine qAb hT Tryz.func197 rfl rfl rfl rfl ?_;intro E hE
  refine ww ?_
  refine wwc hv ?_
  refine ww ?_
  refine qAa rfl (fun c1=>?_) (fun c1=>?_)
  ·refine ww ?_
   exact wwr
  ·exact absurd c1 (by simp)
 rw [if_pos hvs]
 rw [hvs] at hv
 refine qAb hT Tryz.func197 rfl rfl rfl rfl ?_;intro E hE
 refine ww ?_
 refine wwc hv ?_
 refine ww ?_
 refine qAa rfl (fun c1=>?_) (fun c1=>?_)
 ·exact absurd c1 (by simp)
 refine ww ?_
 refine qAn (ι:=Nat) (fun i=>[(0,.d (.str s)),(4,.ptr 0 0),(5,.d (.int .i64 (digSum 0 (s.take i)))),(12,.d (.int .i64 (s.length:Int))),(13,.d (.int .i64 (i:Int)))]) (fun _=>[.row [.d (.int .i64 7),.d (.int .i64 3),.d (.int .i64 1)]]) (fun i=>i≤s.length) (fun i=>s.length-i) 0 (by omega) ⟨.refl _,.refl _,.refl _,.refl _,.refl _,trivial⟩ (HLe.refl _) ?_
 intro i hi
 have hwr:IntKind.i64.wrap ((i:Int)+1)=((i+1:Nat):Int):=by rw [qAd (by omega)];simp
 have hdr:=digSum_range 0 (s.take i) (validS_take s i hvs)
 rw [List.length_take] at hdr
 refine ww ?_
 refine qAa rfl (fun h2=>?_) (fun h2=>?_)
 ·have h2':i < s.length:=by simpa using h2
  have hsa:=qBu h2'
  have htk:s.take (i+1)=s.take i++[s[i]]:=List.take_succ_eq_append_getElem h2'
  have hsn:=digSum_snoc 0 (s.take i) s[i]
  rw [← htk,List.length_take,Nat.min_eq_left (by omega),Nat.zero_add] at hsn
  have hr:=bI_range s[i]
  have hval:=validS_at hvs (List.getElem_mem h2')
  generalize s[i]=c at hsa hsn hr hval
  have hval2:=valC_range (bI c)
  have hva:=ValueP_spec (strAt s (i:Int)) (by rw [hsa];exact hr)
  have hwg:=wgtC_range i
  have hix:=wgtC_off i
  have htm:0≤Int.tmod (i:Int) 3∧Int.tmod (i:Int) 3 < ((3:Nat):Int):=by rw [show Int.tmod (i:Int) 3=((i % 3:Nat):Int) from Int.ofNat_tmod i 3];omega
  have hprod:0≤wgtC i*valC (bI c)∧wgtC i*valC (bI c)≤7*35:=⟨Int.mul_nonneg (by omega) hval,Int.mul_le_mul hwg.2 hval2.2 (by omega) (by omega)⟩
  have hww:IntKind.i64.wrap (digSum 0 (s.take i)+IntKind.i64.wrap (wgtC i*valC (strAt s (i:Int))))=digSum 0 (s.take (i+1)):=by
   rw [hsa,qAd (n:=wgtC i*valC (bI c)) (by omega),qAd (by omega),hsn]
  refine ww ?_
  refine qAs (qAc (qAl hT rfl rfl rfl rfl htm)) rfl rfl ?_
  refine qAs (qBk hT rfl rfl rfl rfl rfl hix) rfl rfl ?_
  refine ww ?_
  refine wwc hva ?_
  refine ww ?_
  exact ⟨i+1,by omega,by omega,⟨.refl _,.refl _,.int hww,.refl _,.int hwr,trivial⟩,HLe.refl _⟩
 ·have h2':i=s.length:=by simp at h2;omega
  subst h2'
  rw [List.take_length] at hdr ⊢
  have hm:Int.tmod (digSum 0 s) 10=digSum 0 s % 10:=Int.tmod_eq_emod_of_nonneg hdr.1
  have hm1:=Int.emod_nonneg (digSum 0 s) (b:=10) (by omega)
  have hm2:=Int.emod_lt_of_pos (digSum 0 s) (b:=10) (by omega)
  have hww:IntKind.i32.wrap (IntKind.i64.wrap (48+Int.tmod (digSum 0 s) 10))=48+digSum 0 s % 10:=by
   rw [hm,qAd (by omega)]
   unfold IntKind.wrap;simp [IntKind.bits,IntKind.signed];omega
  refine ww ?_
  rw [hww]
  refine qAe (qAc (runeStr_ok hT rfl rfl rfl rfl ⟨by omega,by omega⟩)) rfl ?_
  refine ww ?_
  refine rq ⟨rfl,rfl⟩ rfl (AV.le.tup ⟨.str rfl,.refl _,trivial⟩)
theorem digitP_spec (s:List UInt8) (hs:s.length≤1000000):Spec Tryz.prog 123 [.d (.str s)] [] (fun r h'=>r=.d (.str (digitF s).1)∧h'=[]):=by
 have hd:=DigitP_spec s hs
 generalize digitF s=d at hd
 refine qAb hT Tryz.func123 rfl rfl rfl rfl ?_;intro E hE
 refine ww ?_
 refine wwc hd ?_
 refine ww ?_
 exact wwr
end Tdoc
/- The reference's zones: the lines. -/
set_option maxHeartbeats 8000000
set_option maxRecDepth 100000
set_option linter.unusedVariables false
set_option linter.unusedSimpArgs false
namespace Tdoc
open Go Go.Proofs
theorem cutS_L (s:List UInt8) (a b:Nat):cutS s a b=cutL s (a:Int) (b:Int):=by simp [cutS,cutL,List.drop_take]
theorem qBe (s:List UInt8) (a b:Int) (h0:0≤a) (h:b≤(s.length:Int)):(cutL s a b).length=b.toNat-a.toNat:=by simp [cutL];omega
theorem names_len (s g:List UInt8) (w:Int):(namesF s g w).1.length≤w.toNat:=by
 unfold namesF
 split
 ·simp
 split
 ·simp
 ·simp;omega
theorem Build_spec (z:Zon) (hz:zLen z):Spec Tryz.prog 45 [zAV z] [] (fun r h'=>r=.tup [.d (.sl 1 (encSs (buildF z).1)),.d (.int .i64 (buildF z).2)]∧h'=[]):=by
 have hv:=ValidZ_spec z hz
 by_cases h0:validZ z=0
 case neg =>
  unfold buildF
  rw [if_pos h0]
  generalize validZ z=e at hv h0
  obtain ⟨fmt,kind,state,sur,giv,num,nat,bir,sex,exp,opt,sec⟩:=z
  unfold zAV zCells at hv ⊢
  simp only at hv ⊢
  refine qAb hT Tryz.func45 rfl rfl rfl rfl ?_;intro E hE
  refine qAq ?_
  refine qAm (qAj ?_)
  refine qAe (qBb (i0:=0) rfl rfl rfl) rfl ?_
  refine ww ?_
  refine wwc hv ?_
  refine ww ?_
  refine qAa rfl (fun c1=>?_) (fun c1=>?_)
  ·refine ww ?_
   exact wwr
  ·exact absurd (by simpa using c1) h0
 have ok:=validZ_ok h0
 obtain ⟨z1,z2,z3,z4,z5,z6,z7,z8,z9,z10,z11⟩:=hz
 obtain ⟨o1,o2,o3,o4,o5,o6,o7,o8,o9,o10⟩:=ok
 have hb:buildF z=(buildZ z,0):=by unfold buildF;rw [if_neg (by simp [h0])]
 rw [h0] at hv
 rw [hb]
 clear hb h0
 have hrm:roomF z+(if z.num.length≤9 then 0 else (z.num.length:Int)-9+2)≤(if z.fmt=1 then 15 else if z.fmt=2 then 7 else 14):=by
  unfold roomF;split <;> (try split) <;> (try split) <;> omega
 have hmost:mostN z.fmt≤20:=by unfold mostN;split <;> (try split) <;> omega
 generalize roomF z=room at o9 hrm
 generalize hfin:buildZ z=fin
 obtain ⟨fmt,kind,state,sur,giv,num,nat,bir,sex,exp,opt,sec⟩:=z
 unfold zAV zCells at hv ⊢
 unfold buildZ at hfin
 simp only at hv hfin o1 o2 o3 o4 o5 o6 o7 o8 o9 o10 z1 z2 z3 z4 z5 z6 z7 z8 z9 z10 z11 hrm hmost ⊢
 have hk:=Wide_spec kind 2 (by omega) (by omega)
 have hkl:=qBq kind 2
 have hs:=Wide_spec state 3 (by omega) (by omega)
 have hsl:=qBq state 3
 have hna:=Wide_spec nat 3 (by omega) (by omega)
 have hnal:=qBq nat 3
 have hnu:=number_spec num (by omega)
 have hnul:=number_len o8.2.2 o8.1
 have hbd:=checked_spec bir (by omega)
 have hbl:=checked_len o5.2
 have hed:=checked_spec exp (by omega)
 have hel:=checked_len o7.2
 have hnm:=Names_spec sur giv (nameW fmt) (by omega) (by omega)
 have hnml:=names_len sur giv (nameW fmt)
 generalize wideS kind 2=k2 at hk hkl hfin
 generalize wideS state 3=s3 at hs hsl hfin
 generalize wideS nat 3=n3 at hna hnal hfin
 generalize numberS num=nn at hnu hnul hfin
 obtain ⟨num1,num2⟩:=nn
 generalize checkedS bir=bd at hbd hbl hfin
 generalize checkedS exp=ed at hed hel hfin
 simp only at hnu hnul hfin
 generalize hm0:nameW fmt=m0 at hnm hnml hfin
 have hm1:m0≤39:=by rw [← hm0];unfold nameW;split <;> (try split) <;> omega
 generalize namesF sur giv m0=nf at hnm hnml hfin
 obtain ⟨nam,ne⟩:=nf
 simp only at hnm hnml hfin
 have har:([.d (.int .i64 0),.d (.int .i64 30),.d (.int .i64 31),.d (.int .i64 39)]:List AV)[fmt.toNat]?=some (.d (.int .i64 m0)):=by
  have:fmt=1∨fmt=2∨fmt=3:=by omega
  rcases this with rfl | rfl | rfl <;> subst hm0 <;> rfl
 have hn2:num2.length≤13:=by rw [hnul.2];split <;> omega
 have hdl:=fun s=>qBz s
 refine qAb hT Tryz.func45 rfl rfl rfl rfl ?_;intro E hE
 refine qAq ?_
 refine qAq ?_
 refine qAm (qAj ?_)
 refine qAe (qBb (i0:=0) rfl rfl rfl) rfl ?_
 refine ww ?_
 refine wwc hv ?_
 refine ww ?_
 refine qAa rfl (fun c1=>?_) (fun c1=>?_)
 ·exact absurd c1 (by simp)
 refine ww ?_
 refine wwc hk ?_
 refine ww ?_
 refine wwc hs ?_
 refine ww ?_
 refine wwc hnu ?_
 refine wwn ?_
 refine qAz (fun i=>bif Nat.beq i 1 then [0] else bif Nat.beq i 4 then [0] else bif Nat.beq i 7 then [1] else bif Nat.beq i 8 then [1] else []) (fun i=>bif Nat.beq i 7 then [1] else bif Nat.beq i 8 then [1] else []) mixed (by kernel_rfl) ?_
 refine wwg ?_
 refine wwdc hbd ?_
 refine wwg ?_
 refine wwdc hed ?_
 refine wwg ?_
 refine qBd (v:=.ptr 1 0) (os:=[.row [.d (.str []),.d (.str [])]]) (fun k hk1 hk2=>qDn (i0:=1) (t:=129) (i:=⟨.array 2 9,2,32,[.d (.str []),.d (.str [])]⟩) hT rfl rfl (hk2 1 List.mem_cons_self)) rfl ?_
 refine wwg ?_
 refine ww ?_
 refine wwc hna ?_
 refine ww ?_
 refine qAe (qAc (arrIdx_ok hT rfl rfl rfl rfl (by show 0≤fmt∧fmt < 4;omega) har)) rfl ?_
 refine ww ?_
 refine wwc hnm ?_
 refine ww ?_
 refine qAa rfl (fun f1=>?_) (fun f1=>?_)
 ·have f1':fmt=1:=by simpa using f1
  rw [if_pos f1'] at hfin
  have hw:=Wide_spec (num2++opt) 15 (by rw [List.length_append];omega) (by omega)
  have hwl:=qBq (num2++opt) 15
  have hv:=Wide_spec sec 11 (by omega) (by omega)
  have hvl:=qBq sec 11
  rw [List.length_append] at hwl
  have hal:(k2++s3++num1++wideS (num2++opt) 15).length≥30:=by simp only [List.length_append];omega
  have hbl2:(bd++sex++ed++n3++wideS sec 11).length≥29:=by simp only [List.length_append];omega
  have hau:(k2++s3++num1++wideS (num2++opt) 15).length≤100000:=by simp only [List.length_append];omega
  have hbu:(bd++sex++ed++n3++wideS sec 11).length≤100000:=by simp only [List.length_append];omega
  generalize wideS (num2++opt) 15=w15 at hw hwl hal hau hfin
  generalize wideS sec 11=w11 at hv hvl hbl2 hbu hfin
  refine ww ?_
  refine wwc hw ?_
  refine ww ?_
  first | refine qAe (qAc (qAl hT rfl rfl rfl rfl (by decide))) rfl ?_ | refine qAs (qAc (qAl hT rfl rfl rfl rfl (by decide))) rfl rfl ?_
  refine ww ?_
  first | refine qAe (qAc (qAl hT rfl rfl rfl rfl (by decide))) rfl ?_ | refine qAs (qAc (qAl hT rfl rfl rfl rfl (by decide))) rfl rfl ?_
  refine ww ?_
  refine wwc hv ?_
  refine wws ?_
  generalize k2++s3++num1++w15=a at hal hau hfin ⊢
  generalize bd++sex++ed++n3++w11=b at hbl2 hbu hfin ⊢
  rw [show cutS a 5 30=cutL a 5 30 from cutS_L a 5 30,show cutS b 0 7=cutL b 0 7 from cutS_L b 0 7,show cutS b 8 15=cutL b 8 15 from cutS_L b 8 15,show cutS b 18 29=cutL b 18 29 from cutS_L b 18 29] at hfin
  have l1:(cutL a 5 30).length=25:=qBe a 5 30 (by omega) (by omega)
  have l2:(cutL b 0 7).length=7:=qBe b 0 7 (by omega) (by omega)
  have l3:(cutL b 8 15).length=7:=qBe b 8 15 (by omega) (by omega)
  have l4:(cutL b 18 29).length=11:=qBe b 18 29 (by omega) (by omega)
  have hd:=Digit_spec (cutL a 5 30++cutL b 0 7++cutL b 8 15++cutL b 18 29) (by simp only [List.length_append];omega)
  have hdl2:=qBz (cutL a 5 30++cutL b 0 7++cutL b 8 15++cutL b 18 29)
  generalize digitF (cutL a 5 30++cutL b 0 7++cutL b 8 15++cutL b 18 29)=q at hd hdl2 hfin
  obtain ⟨d,de⟩:=q
  simp only at hd hdl2 hfin
  subst hfin
  refine ww ?_
  refine wwc hd ?_
  refine ww ?_
  exact wwr
 have f1':¬ fmt=1:=by simpa using f1
 rw [if_neg f1'] at hfin
 refine ww ?_
 refine qAa rfl (fun f2=>?_) (fun f2=>?_)
 ·have f2':fmt=2:=by simpa using f2
  rw [if_pos f2'] at hfin
  have hw:=Wide_spec (num2++opt) 7 (by rw [List.length_append];omega) (by omega)
  have hwl:=qBq (num2++opt) 7
  rw [List.length_append] at hwl
  have hbl2:(num1++n3++bd++sex++ed++wideS (num2++opt) 7).length≥35:=by simp only [List.length_append];omega
  have hbu:(num1++n3++bd++sex++ed++wideS (num2++opt) 7).length≤100000:=by simp only [List.length_append];omega
  generalize wideS (num2++opt) 7=w7 at hw hwl hbl2 hbu hfin
  refine ww ?_
  first | refine qAe (qAc (qAl hT rfl rfl rfl rfl (by decide))) rfl ?_ | refine qAs (qAc (qAl hT rfl rfl rfl rfl (by decide))) rfl rfl ?_
  refine ww ?_
  first | refine qAe (qAc (qAl hT rfl rfl rfl rfl (by decide))) rfl ?_ | refine qAs (qAc (qAl hT rfl rfl rfl rfl (by decide))) rfl rfl ?_
  refine ww ?_
  refine wwc hw ?_
  refine wws ?_
  generalize num1++n3++bd++sex++ed++w7=b at hbl2 hbu hfin ⊢
  rw [show cutS b 0 10=cutL b 0 10 from cutS_L b 0 10,show cutS b 13 20=cutL b 13 20 from cutS_L b 13 20,show cutS b 21 35=cutL b 21 35 from cutS_L b 21 35] at hfin
  have l1:(cutL b 0 10).length=10:=qBe b 0 10 (by omega) (by omega)
  have l2:(cutL b 13 20).length=7:=qBe b 13 20 (by omega) (by omega)
  have l3:(cutL b 21 35).length=14:=qBe b 21 35 (by omega) (by omega)
  have hd:=Digit_spec (cutL b 0 10++cutL b 13 20++cutL b 21 35) (by simp only [List.length_append];omega)
  have hdl2:=qBz (cutL b 0 10++cutL b 13 20++cutL b 21 35)
  generalize digitF (cutL b 0 10++cutL b 13 20++cutL b 21 35)=q at hd hdl2 hfin
  obtain ⟨d,de⟩:=q
  simp only at hd hdl2 hfin
  subst hfin
  refine ww ?_
  refine wwc hd ?_
  refine ww ?_
  exact wwr
 have f2':¬ fmt=2:=by simpa using f2
 rw [if_neg f2'] at hfin
 have hw:=Wide_spec opt 14 (by omega) (by omega)
 have hwl:=qBq opt 14
 have hd0:=Digit_spec (wideS opt 14) (by omega)
 have hdl0:=qBz (wideS opt 14)
 have hd1:(digitF (wideS opt 14)).1.length=1:=digit_one (validS_wide 14 o9.2)
 generalize wideS opt 14=w14 at hw hwl hd0 hdl0 hd1 hfin
 generalize digitF w14=q0 at hd0 hdl0 hd1 hfin
 obtain ⟨d0,de0⟩:=q0
 simp only at hd0 hdl0 hd1 hfin
 have fin2:∀ o:List UInt8,o=(if opt=[] then [60] else d0)→o.length=1→(num1++n3++bd++sex++ed++w14++o).length≥43∧(num1++n3++bd++sex++ed++w14++o).length≤100000:=fun o ho h1=>by
  simp only [List.length_append,h1];omega
 refine wwe ?_
 refine qAm (qAj ?_)
 refine wws ?_
 generalize hoe:(if opt=[] then [60] else d0)=o at hfin fin2
 refine qAr (ι:=Unit) (fun _=>[(1,.ptr 0 0),(5,.d (.str (k2++s3))),(6,.d (.str num1)),(8,.ptr 1 0),(9,.d (.str n3)),(11,.d (.str nam)),(20,.d (.str o))])
  (fun _=>[.row [.d (.int .i64 fmt),.d (.str kind),.d (.str state),.d (.str sur),.d (.str giv),.d (.str num),.d (.str nat),.d (.str bir),.d (.str sex),.d (.str exp),.d (.str opt),.d (.str sec)],.row [.d (.str bd),.d (.str ed)]]) (fun _=>o.length=1) ?_ (fun _ ho=>?_)
 ·refine ww ?_
  refine qAa rfl (fun f3=>?_) (fun f3=>?_)
  ·have f3':¬ opt=[]:=by simpa using f3
   rw [if_neg f3'] at hoe
   subst hoe
   refine ww ?_
   refine wwc hw ?_
   refine ww ?_
   refine wwc hd0 ?_
   refine ww ?_
   exact ⟨(),hd1,⟨.refl _,.refl _,.refl _,.refl _,.refl _,.refl _,.refl _,trivial⟩,HLe.refl _⟩
  ·have f3':opt=[]:=by simpa using f3
   rw [if_pos f3'] at hoe
   subst hoe
   refine ww ?_
   exact ⟨(),rfl,⟨.refl _,.refl _,.refl _,.refl _,.refl _,.refl _,.refl _,trivial⟩,HLe.refl _⟩
 obtain ⟨hbl2,hbu⟩:=fin2 o rfl ho
 refine ww ?_
 first | refine qAe (qAc (qAl hT rfl rfl rfl rfl (by decide))) rfl ?_ | refine qAs (qAc (qAl hT rfl rfl rfl rfl (by decide))) rfl rfl ?_
 refine ww ?_
 first | refine qAe (qAc (qAl hT rfl rfl rfl rfl (by decide))) rfl ?_ | refine qAs (qAc (qAl hT rfl rfl rfl rfl (by decide))) rfl rfl ?_
 refine ww ?_
 refine wwc hw ?_
 refine wws ?_
 generalize num1++n3++bd++sex++ed++w14++o=b at hbl2 hbu hfin ⊢
 rw [show cutS b 0 10=cutL b 0 10 from cutS_L b 0 10,show cutS b 13 20=cutL b 13 20 from cutS_L b 13 20,show cutS b 21 43=cutL b 21 43 from cutS_L b 21 43] at hfin
 have l1:(cutL b 0 10).length=10:=qBe b 0 10 (by omega) (by omega)
 have l2:(cutL b 13 20).length=7:=qBe b 13 20 (by omega) (by omega)
 have l3:(cutL b 21 43).length=22:=qBe b 21 43 (by omega) (by omega)
 have hd:=Digit_spec (cutL b 0 10++cutL b 13 20++cutL b 21 43) (by simp only [List.length_append];omega)
 have hdl2:=qBz (cutL b 0 10++cutL b 13 20++cutL b 21 43)
 generalize digitF (cutL b 0 10++cutL b 13 20++cutL b 21 43)=q at hd hdl2 hfin
 obtain ⟨d,de⟩:=q
 simp only at hd hdl2 hfin
 subst hfin
 refine ww ?_
 refine wwc hd ?_
 refine ww ?_
 exact wwr
end Tdoc
/- The program's sheet of lines: get, value, composed. -/
set_option maxHeartbeats 8000000
set_option maxRecDepth 100000
set_option linter.unusedVariables false
set_option linter.unusedSimpArgs false
namespace Tdoc
open Go Go.Proofs
def linesD (ls:List (List UInt8)):List (List Dat):=ls.map fun s=>[.sl 1 (encB s)]
def shD (L:List Int) (ls:List (List UInt8)):List Dat:=L.map (Dat.int .i64)++[.sl 1 (linesD ls)]
def shC (L:List Int) (ls:List (List UInt8)):List AV:=(shD L ls).map .d
theorem qCf (k:Nat) (L:List Int) (ls:List (List UInt8)):lowH k [.row (shC L ls)]=true:=by
 simp [lowH,lowO,shC,lowL_d]
def plA (L:List Int) (i:Nat):Int:=L.getD (3*i) 0
def plB (L:List Int) (i:Nat):Int:=L.getD (3*i+1) 0
def plC (L:List Int) (i:Nat):Int:=L.getD (3*i+2) 0
def fldG (L:List Int) (ls:List (List UInt8)) (i:Nat):List UInt8:=if plC L i=0 then [] else cutS (ls.getD (plA L i).toNat []) (plB L i).toNat (plB L i+plC L i).toNat
def okG (L:List Int) (ls:List (List UInt8)) (i:Nat):Prop:=plC L i=0∨(0≤plA L i∧(plA L i).toNat < ls.length∧0≤plB L i∧0≤plC L i∧plB L i+plC L i≤((ls.getD (plA L i).toNat []).length:Int)∧plB L i+plC L i≤1000000)
theorem sh_len {L:List Int} (hL:L.length=45) (ls:List (List UInt8)):(shC L ls).length=46:=by simp [shC,shD,hL]
theorem sh_at {L:List Int} (hL:L.length=45) (ls:List (List UInt8)) {k:Nat} (hk:k < 45):(shC L ls)[k]?=some (.d (.int .i64 (L.getD k 0))):=by
 unfold shC shD
 rw [List.getElem?_map,List.getElem?_append_left (by simp;omega),List.getElem?_map,List.getD_eq_getElem?_getD,List.getElem?_eq_getElem (by omega)]
 rfl
theorem sh_last {L:List Int} (hL:L.length=45) (ls:List (List UInt8)):(shC L ls)[45]?=some (.d (.sl 1 (linesD ls))):=by
 unfold shC shD
 rw [List.getElem?_map,List.getElem?_append_right (by simp;omega)]
 simp [hL]
theorem sh_cut {L:List Int} (hL:L.length=45) (ls:List (List UInt8)) {i:Nat} (hi:i < 15):((shC L ls).drop (0+i*3)).take 3=[.d (.int .i64 (plA L i)),.d (.int .i64 (plB L i)),.d (.int .i64 (plC L i))]:=by
 have h0:=sh_at hL ls (k:=3*i) (by omega)
 have h1:=sh_at hL ls (k:=3*i+1) (by omega)
 have h2:=sh_at hL ls (k:=3*i+2) (by omega)
 apply List.ext_getElem?
 intro j
 rw [List.getElem?_take]
 match j with
 | 0=>simp only [Nat.lt_add_one,if_true,show (0:Nat) < 3 by omega];rw [List.getElem?_drop,show 0+i*3+0=3*i by omega,h0];rfl
 | 1=>rw [if_pos (by omega),List.getElem?_drop,show 0+i*3+1=3*i+1 by omega,h1];rfl
 | 2=>rw [if_pos (by omega),List.getElem?_drop,show 0+i*3+2=3*i+2 by omega,h2];rfl
 | j+3=>rw [if_neg (by omega)];rfl
theorem lines_at {ls:List (List UInt8)} {k:Nat} (h:k < ls.length):(linesD ls)[k]?=some [.sl 1 (encB (ls.getD k []))]:=by
 unfold linesD
 rw [List.getElem?_map,List.getD_eq_getElem?_getD,List.getElem?_eq_getElem h]
 rfl
theorem encB_cutL (s:List UInt8) (a b:Int):cutL (encB s) a b=encB (cutL s a b):=by unfold cutL encB;rw [← List.map_drop,← List.map_take]
theorem get_spec (L:List Int) (ls:List (List UInt8)) (i:Nat) (hi:i < 15) (hL:L.length=45) (hok:okG L ls i) :
  Spec Tryz.prog 125 [.ptr 0 0,.d (.int .i64 (i:Int))] [.row (shC L ls)] (fun r h'=>r=.d (.str (fldG L ls i))∧h'=[.row (shC L ls)]):=by
 have hcut:=sh_cut hL ls hi
 have hlen:=sh_len hL ls
 have hlast:=sh_last hL ls
 unfold fldG
 unfold okG at hok
 generalize plA L i=a at *
 generalize plB L i=b at *
 generalize plC L i=c at *
 refine qAb hT Tryz.func125 rfl rfl rfl rfl ?_;intro E hE
 refine ww ?_
 refine qAe (qAc (qAl hT rfl rfl rfl rfl ⟨by omega,by omega⟩)) rfl ?_
 refine qAe (load_ok hT rfl rfl rfl (loadA_agg rfl rfl (by rw [hlen];simp;omega) hcut)) rfl ?_
 refine ww ?_
 refine qAa rfl (fun c1=>?_) (fun c1=>?_)
 ·have e:c=0:=by simpa using c1
  rw [if_pos e]
  refine ww ?_
  exact rq ⟨rfl,rfl⟩ rfl (.refl _) (h6:=qCf 1 L ls)
 have e:c≠0:=by simpa using c1
 rcases hok with h0 | ⟨h1,h2,h3,h4,h5,h6⟩
 ·exact absurd h0 e
 rw [if_neg e]
 have hln:=lines_at h2
 generalize ls.getD a.toNat []=s at hln h5
 have hw:IntKind.i64.wrap (b+c)=b+c:=qAd (by omega)
 have hcs:cutS s b.toNat (b+c).toNat=cutL s b (b+c):=by rw [cutS_L,Int.toNat_of_nonneg h3,Int.toNat_of_nonneg (by omega)]
 rw [hcs]
 have hsl:=qAg s
 refine wwe ?_
 refine qAm ?_
 refine AW_draw mixed (by kernel_rfl) ?_
 refine wws ?_
 refine qAs (qBk hT rfl rfl rfl rfl rfl hlast) rfl rfl ?_
 refine wws ?_
 refine qAs (qAc (qAi hT rfl rfl rfl rfl (by omega) hln)) rfl rfl ?_
 refine wws ?_
 rw [hw,encB_cutL]
 refine AWd_step hT rfl rfl rfl (qAv _) ?_
 rw [qBc]
 refine ww ?_
 exact rq ⟨rfl,rfl⟩ rfl (.refl _) (h6:=qCf 1 L ls)
end Tdoc
/- The program's sheet of lines: value, composed, checked, numbers. -/
set_option maxHeartbeats 8000000
set_option maxRecDepth 100000
set_option linter.unusedVariables false
set_option linter.unusedSimpArgs false
namespace Tdoc
open Go Go.Proofs
theorem value_spec (L:List Int) (ls:List (List UInt8)) (i:Nat) (hi:i < 15) (hL:L.length=45) (hok:okG L ls i) (hs:(fldG L ls i).length≤1000000) :
  Spec Tryz.prog 156 [.ptr 0 0,.d (.int .i64 (i:Int))] [.row (shC L ls)] (fun r h'=>r=.d (.str (trimF (fldG L ls i)))∧h'=[.row (shC L ls)]):=by
 have hg:=get_spec L ls i hi hL hok
 have ht:=TrimR_spec (fldG L ls i) hs
 have hlw:=qCf 0 L ls
 generalize fldG L ls i=s at *
 refine qAb hT Tryz.func156 rfl rfl rfl rfl ?_;intro E hE
 refine ww ?_
 refine qAe (callS1 rfl rfl hg [0] (by decide) rfl rfl rfl hlw hlw rfl rfl) rfl ?_
 refine ww ?_
 refine wwc ht ?_
 refine ww ?_
 exact rq ⟨rfl,rfl⟩ rfl (.refl _) (h6:=qCf 1 L ls)
def compG (ls:List (List UInt8)):List UInt8:=match ls with
 | [a,b,_]=>a.drop 5++b.take 7++cutL b 8 15++cutL b 18 29
 | [_,b]=>b.take 10++cutL b 13 20++cutL b 21 ((b.length:Int)-1)
 | _=>[]
theorem composed3_spec (L:List Int) (a b c:List UInt8) (hL:L.length=45) (ha:a.length=30) (hb:b.length=30) :
  Spec Tryz.prog 126 [.ptr 0 0] [.row (shC L [a,b,c])] (fun r h'=>r=.d (.str (compG [a,b,c]))∧h'=[.row (shC L [a,b,c])]):=by
 have hlast:=sh_last hL [a,b,c]
 have h0:(linesD [a,b,c])[((0:Int)).toNat]?=some [.sl 1 (encB a)]:=rfl
 have h1:(linesD [a,b,c])[((1:Int)).toNat]?=some [.sl 1 (encB b)]:=rfl
 have hl1:(cutL b 8 15).length=7:=by rw [qBe b 8 15 (by omega) (by omega)];rfl
 have hl2:(cutL b 18 29).length=11:=by rw [qBe b 18 29 (by omega) (by omega)];rfl
 unfold compG
 simp only
 refine qAb hT Tryz.func126 rfl rfl rfl rfl ?_;intro E hE
 refine ww ?_
 refine qAe (qBk hT rfl rfl rfl rfl rfl hlast) rfl ?_
 refine ww ?_
 refine qAa rfl (fun c1=>?_) (fun c1=>?_)
 rotate_left
 ·exact absurd c1 (by simp [linesD])
 refine ww ?_
 refine qAs (qBk hT rfl rfl rfl rfl rfl hlast) rfl rfl ?_
 refine qAs (qAc (qAi hT rfl rfl rfl rfl (by omega) h0)) rfl rfl ?_
 refine wws ?_
 refine AWd_step hT rfl rfl rfl (qAv _) ?_
 refine wws ?_
 refine qAs (qBk hT rfl rfl rfl rfl rfl hlast) rfl rfl ?_
 refine qAs (qAc (qAi hT rfl rfl rfl rfl (by omega) h1)) rfl rfl ?_
 refine wws ?_
 refine AWd_step hT rfl rfl rfl (qAv _) ?_
 rw [qBc,qBc]
 refine ww ?_
 exact rq ⟨rfl,rfl⟩ rfl (.refl _) (h6:=qCf 1 L _)
theorem composed2_spec (L:List Int) (a b:List UInt8) (hL:L.length=45) (hb:b.length=36∨b.length=44) :
  Spec Tryz.prog 126 [.ptr 0 0] [.row (shC L [a,b])] (fun r h'=>r=.d (.str (compG [a,b]))∧h'=[.row (shC L [a,b])]):=by
 have hlast:=sh_last hL [a,b]
 have h1:(linesD [a,b])[((1:Int)).toNat]?=some [.sl 1 (encB b)]:=rfl
 have hw:IntKind.i64.wrap ((b.length:Int)-1)=(b.length:Int)-1:=qAd (by omega)
 have hl1:(cutL b 13 20).length=7:=by rw [qBe b 13 20 (by omega) (by omega)];rfl
 have hl2:(cutL b 21 ((b.length:Int)-1)).length≤44:=by rw [qBe b 21 _ (by omega) (by omega)];omega
 unfold compG
 simp only
 refine qAb hT Tryz.func126 rfl rfl rfl rfl ?_;intro E hE
 refine ww ?_
 refine qAe (qBk hT rfl rfl rfl rfl rfl hlast) rfl ?_
 refine ww ?_
 refine qAa rfl (fun c1=>?_) (fun c1=>?_)
 ·exact absurd c1 (by simp [linesD])
 refine ww ?_
 refine qAe (qBk hT rfl rfl rfl rfl rfl hlast) rfl ?_
 refine ww ?_
 refine qAe (qAc (qAi hT rfl rfl rfl rfl (by omega) h1)) rfl ?_
 refine ww ?_
 refine qBn hT rfl rfl (qAv _) ?_
 rw [qBc]
 refine ww ?_
 rw [hw]
 refine ww ?_
 exact rq ⟨rfl,rfl⟩ rfl (.refl _) (h6:=qCf 1 L _)
structure OkS (L:List Int) (ls:List (List UInt8)):Prop where
 len:L.length=45
 all:∀ i,i < 15→okG L ls i
 wid:∀ i,i < 15→(fldG L ls i).length≤1000
 w4:plC L 4≠0
 w7:plC L 7≠0
 w10:plC L 10≠0
def dgG (L:List Int) (ls:List (List UInt8)) (i:Nat):List UInt8:=(digitF (fldG L ls i)).1
def okP (L:List Int) (ls:List (List UInt8)) (i:Nat):Bool:=match i with
 | 0=>decide (fldG L ls 4=[60]∨fldG L ls 4=dgG L ls 3)
 | 1=>decide (fldG L ls 7=dgG L ls 6)
 | 2=>decide (fldG L ls 10=dgG L ls 9)
 | _=>decide (plC L 12=0∨(Lib.trimB (fldG L ls 11) 60=[]∧fldG L ls 12=[60])∨fldG L ls 12=dgG L ls 11)
def endG (L:List Int) (ls:List (List UInt8)) (cg:List UInt8):Bool:=fldG L ls 14 == (digitF cg).1
def restG (L:List Int) (ls:List (List UInt8)) (cg:List UInt8) (i:Nat):Bool:=match i with
 | 0=>okP L ls 0&&(okP L ls 1&&(okP L ls 2&&(okP L ls 3&&endG L ls cg)))
 | 1=>okP L ls 1&&(okP L ls 2&&(okP L ls 3&&endG L ls cg))
 | 2=>okP L ls 2&&(okP L ls 3&&endG L ls cg)
 | 3=>okP L ls 3&&endG L ls cg
 | _=>endG L ls cg
theorem checked_spec2 (L:List Int) (ls:List (List UInt8)) (cg:List UInt8) (hS:OkS L ls) (hcl:cg.length≤1000)
  (hcomp:Spec Tryz.prog 126 [.ptr 0 0] [.row (shC L ls)] (fun r h'=>r=.d (.str cg)∧h'=[.row (shC L ls)])) :
  Spec Tryz.prog 153 [.ptr 0 0] [.row (shC L ls)] (fun r h'=>r=.d (.bool (restG L ls cg 0))∧h'=[.row (shC L ls)]):=by
 have hget:=fun i hi=>get_spec L ls i hi hS.len (hS.all i hi)
 have hdg:=fun i hi=>digitP_spec (fldG L ls i) (by have:=hS.wid i hi;omega)
 have htr:=fun i hi=>Trim60_spec (fldG L ls i) (by have:=hS.wid i hi;omega)
 have hdc:=digitP_spec cg (by omega)
 have hlw:=qCf 0 L ls
 have hat:=fun k hk=>sh_at hS.len ls (k:=k) hk
 have hw4:=hS.w4
 have hw7:=hS.w7
 have hw10:=hS.w10
 generalize hfin:restG L ls cg 0=fin
 refine qAb hT Tryz.func153 rfl rfl rfl rfl ?_;intro E hE
 refine ww ?_
 refine qBg (ι:=Nat) (fun i=>[(0,.ptr 0 0),(12,.agg [.d (.int .i64 3),.d (.int .i64 4),.d (.int .i64 6),.d (.int .i64 7),.d (.int .i64 9),.d (.int .i64 10),.d (.int .i64 11),.d (.int .i64 12)]),(13,.d (.int .i64 (i:Int)))]) (fun _=>[.row (shC L ls)])
  (fun i=>i≤4∧restG L ls cg i=fin) (fun i=>4-i) 0 ⟨by omega,hfin⟩ ⟨.refl _,.refl _,.refl _,trivial⟩ (HLe.refl _) ?_
 rintro i ⟨hi,hg⟩
 refine ww ?_
 refine qAa rfl (fun c1=>?_) (fun c1=>?_)
 rotate_left
 ·have c1':i=4:=by simp at c1;omega
  subst c1'
  have hgg:=hget 14 (by omega)
  have hg':endG L ls cg=fin:=hg
  unfold endG at hg'
  refine ww ?_
  refine qAe (callS1 rfl rfl hgg [0] (by decide) rfl rfl rfl hlw hlw rfl rfl) rfl ?_
  refine ww ?_
  refine qAe (callS1 rfl rfl hcomp [0] (by decide) rfl rfl rfl hlw hlw rfl rfl) rfl ?_
  refine ww ?_
  refine wwc hdc ?_
  refine ww ?_
  rw [hg']
  exact rq ⟨rfl,rfl⟩ rfl (.refl _) (h6:=qCf 1 L ls)
 have c1':i < 4:=by simp at c1;omega
 have h4:i=0∨i=1∨i=2∨i=3:=by omega
 rcases h4 with rfl | rfl | rfl | rfl
 ·have gp:=hget 3 (by omega)
  have gq:=hget 4 (by omega)
  have gd:=hdg 3 (by omega)
  have gt:=htr 3 (by omega)
  have gw:=hat 14 (by omega)
  have hg':(okP L ls 0&&restG L ls cg 1)=fin:=hg
  have hok:okP L ls 0=decide (fldG L ls 4=[60]∨fldG L ls 4=(digitF (fldG L ls 3)).1):=rfl
  have hpc:plC L 4=L.getD 14 0:=rfl
  rw [← hpc] at gw
  generalize fldG L ls 3=sp at *
  generalize fldG L ls 4=sq at *
  generalize (digitF sp).1=dg at *
  generalize Lib.trimB sp 60=tr at *
  generalize plC L 4=wq at *
  refine ww ?_
  refine qAe (qAc (arrIdxN_ok hT rfl rfl rfl rfl ⟨by decide,by decide⟩ (by decide) rfl)) rfl ?_
  refine ww ?_
  refine qAs (qAc (qAl hT rfl rfl rfl rfl (by decide))) rfl rfl ?_
  refine ww ?_
  refine qAs (callS1 rfl rfl gp [0] (by decide) rfl rfl rfl hlw hlw rfl rfl) rfl rfl ?_
  refine ww ?_
  refine qAs (qAc (qAl hT rfl rfl rfl rfl (by decide))) rfl rfl ?_
  refine ww ?_
  refine qAs (callS1 rfl rfl gq [0] (by decide) rfl rfl rfl hlw hlw rfl rfl) rfl rfl ?_
  refine ww ?_
  refine wwc gt ?_
  refine ww ?_
  refine qAs (qAc (qAl hT rfl rfl rfl rfl (by decide))) rfl rfl ?_
  refine ww ?_
  refine qAs (qAc (qAl hT rfl rfl rfl rfl (by decide))) rfl rfl ?_
  refine ww ?_
  refine qAs (qBk hT rfl rfl rfl rfl rfl gw) rfl rfl ?_
  refine ww ?_
  refine qAa rfl (fun c27=>?_) (fun c27=>?_)
  ·exact absurd (by simpa using c27) hw4
  refine ww ?_
  refine qAe (qAc (qAl hT rfl rfl rfl rfl (by decide))) rfl ?_
  refine ww ?_
  refine qAa rfl (fun c37=>?_) (fun c37=>?_)
  ·refine ww ?_
   refine ⟨1,[_],⟨by omega,?_⟩,by omega,⟨.refl _,.refl _,.refl _,trivial⟩,HLe.refl _,hE,rfl,qCf 1 L ls⟩
   have h1:okP L ls 0=true:=by
    rw [hok];simp at c37;simp [c37]
   rw [h1,Bool.true_and] at hg';exact hg'
  refine ww ?_
  refine qAe (qAc (qAl hT rfl rfl rfl rfl (by decide))) rfl ?_
  refine ww ?_
  refine qAa rfl (fun c45=>?_) (fun c45=>?_)
  ·exact absurd c45 (by simp)
  refine ww ?_
  refine wwc gd ?_
  refine ww ?_
  refine qAa rfl (fun c56=>?_) (fun c56=>?_)
  ·have h1:okP L ls 0=false:=by
    rw [hok];simp at c37 c56;simp [c37,c56]
   rw [h1,Bool.false_and] at hg'
   subst hg'
   refine ww ?_
   exact rq ⟨rfl,rfl⟩ rfl (.refl _) (h6:=qCf 1 L ls)
  refine ww ?_
  refine ⟨1,[_],⟨by omega,?_⟩,by omega,⟨.refl _,.refl _,.refl _,trivial⟩,HLe.refl _,hE,rfl,qCf 1 L ls⟩
  have h1:okP L ls 0=true:=by
   rw [hok];simp at c56;simp [c56]
  rw [h1,Bool.true_and] at hg';exact hg'
 ·have gp:=hget 6 (by omega)
  have gq:=hget 7 (by omega)
  have gd:=hdg 6 (by omega)
  have gt:=htr 6 (by omega)
  have gw:=hat 23 (by omega)
  have hg':(okP L ls 1&&restG L ls cg 2)=fin:=hg
  have hok:okP L ls 1=decide (fldG L ls 7=(digitF (fldG L ls 6)).1):=rfl
  have hpc:plC L 7=L.getD 23 0:=rfl
  rw [← hpc] at gw
  generalize fldG L ls 6=sp at *
  generalize fldG L ls 7=sq at *
  generalize (digitF sp).1=dg at *
  generalize Lib.trimB sp 60=tr at *
  generalize plC L 7=wq at *
  refine ww ?_
  refine qAe (qAc (arrIdxN_ok hT rfl rfl rfl rfl ⟨by decide,by decide⟩ (by decide) rfl)) rfl ?_
  refine ww ?_
  refine qAs (qAc (qAl hT rfl rfl rfl rfl (by decide))) rfl rfl ?_
  refine ww ?_
  refine qAs (callS1 rfl rfl gp [0] (by decide) rfl rfl rfl hlw hlw rfl rfl) rfl rfl ?_
  refine ww ?_
  refine qAs (qAc (qAl hT rfl rfl rfl rfl (by decide))) rfl rfl ?_
  refine ww ?_
  refine qAs (callS1 rfl rfl gq [0] (by decide) rfl rfl rfl hlw hlw rfl rfl) rfl rfl ?_
  refine ww ?_
  refine wwc gt ?_
  refine ww ?_
  refine qAs (qAc (qAl hT rfl rfl rfl rfl (by decide))) rfl rfl ?_
  refine ww ?_
  refine qAs (qAc (qAl hT rfl rfl rfl rfl (by decide))) rfl rfl ?_
  refine ww ?_
  refine qAs (qBk hT rfl rfl rfl rfl rfl gw) rfl rfl ?_
  refine ww ?_
  refine qAa rfl (fun c27=>?_) (fun c27=>?_)
  ·exact absurd (by simpa using c27) hw7
  refine ww ?_
  refine qAe (qAc (qAl hT rfl rfl rfl rfl (by decide))) rfl ?_
  refine ww ?_
  refine qAa rfl (fun c37=>?_) (fun c37=>?_)
  ·exact absurd c37 (by simp)
  refine ww ?_
  refine qAe (qAc (qAl hT rfl rfl rfl rfl (by decide))) rfl ?_
  refine ww ?_
  refine qAa rfl (fun c45=>?_) (fun c45=>?_)
  ·exact absurd c45 (by simp)
  refine ww ?_
  refine wwc gd ?_
  refine ww ?_
  refine qAa rfl (fun c56=>?_) (fun c56=>?_)
  ·have h1:okP L ls 1=false:=by
    rw [hok];simp at c56;simp [c56]
   rw [h1,Bool.false_and] at hg'
   subst hg'
   refine ww ?_
   exact rq ⟨rfl,rfl⟩ rfl (.refl _) (h6:=qCf 1 L ls)
  refine ww ?_
  refine ⟨2,[_],⟨by omega,?_⟩,by omega,⟨.refl _,.refl _,.refl _,trivial⟩,HLe.refl _,hE,rfl,qCf 1 L ls⟩
  have h1:okP L ls 1=true:=by
   rw [hok];simp at c56;simp [c56]
  rw [h1,Bool.true_and] at hg';exact hg'
 ·have gp:=hget 9 (by omega)
  have gq:=hget 10 (by omega)
  have gd:=hdg 9 (by omega)
  have gt:=htr 9 (by omega)
  have gw:=hat 32 (by omega)
  have hg':(okP L ls 2&&restG L ls cg 3)=fin:=hg
  have hok:okP L ls 2=decide (fldG L ls 10=(digitF (fldG L ls 9)).1):=rfl
  have hpc:plC L 10=L.getD 32 0:=rfl
  rw [← hpc] at gw
  generalize fldG L ls 9=sp at *
  generalize fldG L ls 10=sq at *
  generalize (digitF sp).1=dg at *
  generalize Lib.trimB sp 60=tr at *
  generalize plC L 10=wq at *
  refine ww ?_
  refine qAe (qAc (arrIdxN_ok hT rfl rfl rfl rfl ⟨by decide,by decide⟩ (by decide) rfl)) rfl ?_
  refine ww ?_
  refine qAs (qAc (qAl hT rfl rfl rfl rfl (by decide))) rfl rfl ?_
  refine ww ?_
  refine qAs (callS1 rfl rfl gp [0] (by decide) rfl rfl rfl hlw hlw rfl rfl) rfl rfl ?_
  refine ww ?_
  refine qAs (qAc (qAl hT rfl rfl rfl rfl (by decide))) rfl rfl ?_
  refine ww ?_
  refine qAs (callS1 rfl rfl gq [0] (by decide) rfl rfl rfl hlw hlw rfl rfl) rfl rfl ?_
  refine ww ?_
  refine wwc gt ?_
  refine ww ?_
  refine qAs (qAc (qAl hT rfl rfl rfl rfl (by decide))) rfl rfl ?_
  refine ww ?_
  refine qAs (qAc (qAl hT rfl rfl rfl rfl (by decide))) rfl rfl ?_
  refine ww ?_
  refine qAs (qBk hT rfl rfl rfl rfl rfl gw) rfl rfl ?_
  refine ww ?_
  refine qAa rfl (fun c27=>?_) (fun c27=>?_)
  ·exact absurd (by simpa using c27) hw10
  refine ww ?_
  refine qAe (qAc (qAl hT rfl rfl rfl rfl (by decide))) rfl ?_
  refine ww ?_
  refine qAa rfl (fun c37=>?_) (fun c37=>?_)
  ·exact absurd c37 (by simp)
  refine ww ?_
  refine qAe (qAc (qAl hT rfl rfl rfl rfl (by decide))) rfl ?_
  refine ww ?_
  refine qAa rfl (fun c45=>?_) (fun c45=>?_)
  ·exact absurd c45 (by simp)
  refine ww ?_
  refine wwc gd ?_
  refine ww ?_
  refine qAa rfl (fun c56=>?_) (fun c56=>?_)
  ·have h1:okP L ls 2=false:=by
    rw [hok];simp at c56;simp [c56]
   rw [h1,Bool.false_and] at hg'
   subst hg'
   refine ww ?_
   exact rq ⟨rfl,rfl⟩ rfl (.refl _) (h6:=qCf 1 L ls)
  refine ww ?_
  refine ⟨3,[_],⟨by omega,?_⟩,by omega,⟨.refl _,.refl _,.refl _,trivial⟩,HLe.refl _,hE,rfl,qCf 1 L ls⟩
  have h1:okP L ls 2=true:=by
   rw [hok];simp at c56;simp [c56]
  rw [h1,Bool.true_and] at hg';exact hg'
 ·have gp:=hget 11 (by omega)
  have gq:=hget 12 (by omega)
  have gd:=hdg 11 (by omega)
  have gt:=htr 11 (by omega)
  have gw:=hat 38 (by omega)
  have hg':(okP L ls 3&&restG L ls cg 4)=fin:=hg
  have hok:okP L ls 3=decide (plC L 12=0∨(Lib.trimB (fldG L ls 11) 60=[]∧fldG L ls 12=[60])∨fldG L ls 12=(digitF (fldG L ls 11)).1):=rfl
  have hpc:plC L 12=L.getD 38 0:=rfl
  rw [← hpc] at gw
  generalize fldG L ls 11=sp at *
  generalize fldG L ls 12=sq at *
  generalize (digitF sp).1=dg at *
  generalize Lib.trimB sp 60=tr at *
  generalize plC L 12=wq at *
  refine ww ?_
  refine qAe (qAc (arrIdxN_ok hT rfl rfl rfl rfl ⟨by decide,by decide⟩ (by decide) rfl)) rfl ?_
  refine ww ?_
  refine qAs (qAc (qAl hT rfl rfl rfl rfl (by decide))) rfl rfl ?_
  refine ww ?_
  refine qAs (callS1 rfl rfl gp [0] (by decide) rfl rfl rfl hlw hlw rfl rfl) rfl rfl ?_
  refine ww ?_
  refine qAs (qAc (qAl hT rfl rfl rfl rfl (by decide))) rfl rfl ?_
  refine ww ?_
  refine qAs (callS1 rfl rfl gq [0] (by decide) rfl rfl rfl hlw hlw rfl rfl) rfl rfl ?_
  refine ww ?_
  refine wwc gt ?_
  refine ww ?_
  refine qAs (qAc (qAl hT rfl rfl rfl rfl (by decide))) rfl rfl ?_
  refine ww ?_
  refine qAs (qAc (qAl hT rfl rfl rfl rfl (by decide))) rfl rfl ?_
  refine ww ?_
  refine qAs (qBk hT rfl rfl rfl rfl rfl gw) rfl rfl ?_
  refine ww ?_
  refine qAa rfl (fun c27=>?_) (fun c27=>?_)
  ·refine ww ?_
   refine ⟨4,[_],⟨by omega,?_⟩,by omega,⟨.refl _,.refl _,.refl _,trivial⟩,HLe.refl _,hE,rfl,qCf 1 L ls⟩
   have h1:okP L ls 3=true:=by
    rw [hok];simp at c27;simp [c27]
   rw [h1,Bool.true_and] at hg';exact hg'
  refine ww ?_
  refine qAe (qAc (qAl hT rfl rfl rfl rfl (by decide))) rfl ?_
  refine ww ?_
  refine qAa rfl (fun c37=>?_) (fun c37=>?_)
  ·exact absurd c37 (by simp)
  refine ww ?_
  refine qAe (qAc (qAl hT rfl rfl rfl rfl (by decide))) rfl ?_
  refine ww ?_
  refine qAa rfl (fun c45=>?_) (fun c45=>?_)
  ·refine ww ?_
   refine ⟨4,[_],⟨by omega,?_⟩,by omega,⟨.refl _,.refl _,.refl _,trivial⟩,HLe.refl _,hE,rfl,qCf 1 L ls⟩
   have h1:okP L ls 3=true:=by
    rw [hok];simp at c45;simp [c45]
   rw [h1,Bool.true_and] at hg';exact hg'
  refine ww ?_
  refine wwc gd ?_
  refine ww ?_
  refine qAa rfl (fun c56=>?_) (fun c56=>?_)
  ·have h1:okP L ls 3=false:=by
    rw [hok];simp at c27 c45 c56;simp [c27,c56];exact c45
   rw [h1,Bool.false_and] at hg'
   subst hg'
   refine ww ?_
   exact rq ⟨rfl,rfl⟩ rfl (.refl _) (h6:=qCf 1 L ls)
  refine ww ?_
  refine ⟨4,[_],⟨by omega,?_⟩,by omega,⟨.refl _,.refl _,.refl _,trivial⟩,HLe.refl _,hE,rfl,qCf 1 L ls⟩
  have h1:okP L ls 3=true:=by
   rw [hok];simp at c56;simp [c56]
  rw [h1,Bool.true_and] at hg';exact hg'
end Tdoc
/- The program's numbers of a sheet, and the two names of a zone. -/
set_option maxHeartbeats 8000000
set_option maxRecDepth 100000
set_option linter.unusedVariables false
set_option linter.unusedSimpArgs false
namespace Tdoc
open Go Go.Proofs
def numG (f:Int) (s4 s3 s11:List UInt8):List UInt8×List UInt8×Int :=
 if s4≠[60] then (trimF s3,trimF s11,0)
 else if lenTo s11 < 2∨lenTo s11=s11.length∨f=3 then ([],[],1)
 else if (digitF (s3++s11.take (lenTo s11-1))).1≠[s11.getD (lenTo s11-1) 0] then ([],[],13)
 else (s3++s11.take (lenTo s11-1),trimF (s11.drop (lenTo s11+1)),0)
theorem numbers_spec (L:List Int) (ls:List (List UInt8)) (f:Int) (hS:OkS L ls) :
  Spec Tryz.prog 154 [.ptr 0 0,.d (.int .i64 f)] [.row (shC L ls)] (fun r h'=>r=.tup [.d (.str (numG f (fldG L ls 4) (fldG L ls 3) (fldG L ls 11)).1),.d (.str (numG f (fldG L ls 4) (fldG L ls 3) (fldG L ls 11)).2.1),.d (.int .i64 (numG f (fldG L ls 4) (fldG L ls 3) (fldG L ls 11)).2.2)]∧h'=[.row (shC L ls)]):=by
 have g4:=get_spec L ls 4 (by omega) hS.len (hS.all 4 (by omega))
 have g3:=get_spec L ls 3 (by omega) hS.len (hS.all 3 (by omega))
 have g11:=get_spec L ls 11 (by omega) hS.len (hS.all 11 (by omega))
 have v3:=value_spec L ls 3 (by omega) hS.len (hS.all 3 (by omega)) (by have:=hS.wid 3 (by omega);omega)
 have v11:=value_spec L ls 11 (by omega) hS.len (hS.all 11 (by omega)) (by have:=hS.wid 11 (by omega);omega)
 have l3:=hS.wid 3 (by omega)
 have l11:=hS.wid 11 (by omega)
 have hlw:=qCf 0 L ls
 generalize hr:numG f (fldG L ls 4) (fldG L ls 3) (fldG L ls 11)=res
 generalize fldG L ls 4=s4 at *
 generalize fldG L ls 3=s3 at *
 generalize fldG L ls 11=s11 at *
 have hcut:=Cut_spec s11 [60] (by omega)
 rw [cut_one] at hcut
 have hle:=lenTo_le s11
 unfold numG at hr
 refine qAb hT Tryz.func154 rfl rfl rfl rfl ?_;intro E hE
 refine ww ?_
 refine qAe (callS1 rfl rfl g4 [0] (by decide) rfl rfl rfl hlw hlw rfl rfl) rfl ?_
 refine ww ?_
 refine qAa rfl (fun c1=>?_) (fun c1=>?_)
 ·refine ww ?_
  refine qAe (callS1 rfl rfl v3 [0] (by decide) rfl rfl rfl hlw hlw rfl rfl) rfl ?_
  refine ww ?_
  refine qAe (callS1 rfl rfl v11 [0] (by decide) rfl rfl rfl hlw hlw rfl rfl) rfl ?_
  rw [if_pos (by simpa using c1)] at hr
  subst hr
  refine ww ?_
  exact rq ⟨rfl,rfl⟩ rfl (.refl _) (h6:=qCf 1 L ls)
 rw [if_neg (by simpa using c1)] at hr
 refine ww ?_
 refine qAe (callS1 rfl rfl g11 [0] (by decide) rfl rfl rfl hlw hlw rfl rfl) rfl ?_
 refine ww ?_
 by_cases hq:lenTo s11=s11.length
 ·rw [if_pos hq] at hcut
  simp only at hcut
  rw [if_pos (Or.inr (Or.inl hq))] at hr
  subst hr
  refine wwc hcut ?_
  refine ww ?_
  refine qAa rfl (fun c2=>?_) (fun c2=>?_)
  rotate_left
  ·exact absurd c2 (by simp)
  refine ww ?_
  exact rq ⟨rfl,rfl⟩ rfl (.refl _) (h6:=qCf 1 L ls)
 rw [if_neg hq] at hcut
 simp only at hcut
 have htl:(s11.take (lenTo s11)).length=lenTo s11:=by simp;omega
 generalize htx:s11.take (lenTo s11)=tx at *
 refine wwc hcut ?_
 refine ww ?_
 refine qAa rfl (fun c2=>?_) (fun c2=>?_)
 ·have c2':lenTo s11 < 2∨lenTo s11=s11.length∨f=3:=by simp [htl] at c2;omega
  rw [if_pos c2'] at hr
  subst hr
  refine ww ?_
  exact rq ⟨rfl,rfl⟩ rfl (.refl _) (h6:=qCf 1 L ls)
 have c2':2≤lenTo s11∧f≠3:=by simp [htl] at c2;omega
 rw [if_neg (by omega)] at hr
 have hw:IntKind.i64.wrap ((tx.length:Int)-1)=(lenTo s11:Int)-1:=by rw [htl];exact qAd (by omega)
 refine ww ?_
 rw [hw]
 refine ww ?_
 refine qAs (callS1 rfl rfl g3 [0] (by decide) rfl rfl rfl hlw hlw rfl rfl) rfl rfl ?_
 refine ww ?_
 have e1:((lenTo s11:Int)-1).toNat=lenTo s11-1:=by omega
 have hk1:tx.take ((lenTo s11:Int)-1).toNat=s11.take (lenTo s11-1):=by
  rw [← htx,e1,List.take_take]
  congr 1;omega
 have hk2:tx.drop ((lenTo s11:Int)-1).toNat=[s11.getD (lenTo s11-1) 0]:=by
  rw [← htx,e1,List.drop_take,List.drop_eq_getElem_cons (by omega:lenTo s11-1 < s11.length)]
  have e2:lenTo s11-(lenTo s11-1)=1:=by omega
  rw [e2,List.take_succ_cons,List.take_zero,List.getD_eq_getElem?_getD,List.getElem?_eq_getElem (by omega)]
  rfl
 rw [hk1]
 have hdd:=digitP_spec (s3++s11.take (lenTo s11-1)) (by simp;omega)
 refine wwc hdd ?_
 refine ww ?_
 rw [hk2]
 refine qAa rfl (fun c3=>?_) (fun c3=>?_)
 ·rw [if_pos (by simpa using c3)] at hr
  subst hr
  refine ww ?_
  exact rq ⟨rfl,rfl⟩ rfl (.refl _) (h6:=qCf 1 L ls)
 rw [if_neg (by simpa using c3)] at hr
 subst hr
 have htt:=TrimR_spec (s11.drop (lenTo s11+1)) (by simp;omega)
 refine ww ?_
 refine wwc htt ?_
 refine ww ?_
 exact rq ⟨rfl,rfl⟩ rfl (.refl _) (h6:=qCf 1 L ls)
def fullP (s:List UInt8):Bool:=decide ((splitP s).2.2=0)&&decide ((trimF s).length=s.length)
theorem bI_eq {c:UInt8} {n:Nat} (hn:n < 256):(bI c == (n:Int))=decide (c=UInt8.ofNat n):=by
 unfold bI
 by_cases h:c=UInt8.ofNat n
 ·subst h;simp [UInt8.toNat_ofNat,Nat.mod_eq_of_lt hn]
 ·rw [decide_eq_false h]
  simp only [beq_eq_false_iff_ne,ne_eq]
  intro h'
  apply h
  have:c.toNat=n:=by omega
  rw [← this];simp
theorem isUp_dec (c:UInt8):isUp c=(decide (bI c≥65)&&decide (bI c≤90)):=by unfold isUp;simp [Bool.decide_and]
theorem qBw (s:List UInt8):(trimF s).length≤s.length:=by
 unfold trimF Lib.trimRightB
 have h:=(List.dropWhile_sublist (· == (60:UInt8)) (l:=s.reverse)).length_le
 simpa using h
theorem cut_le (s p:List UInt8):(Lib.cut s p).1.length≤s.length∧(Lib.cut s p).2.1.length≤s.length:=by
 unfold Lib.cut
 split
 ·simp;omega
 ·simp
theorem Split1_spec (s:List UInt8) (hs:s.length≤1000000):Spec Tryz.prog 226 [.d (.str s)] [] (fun r h'=>r=.d (.str (spaceF s))∧h'=[]):=by
 have hr:=ReplaceSp_spec s hs
 refine qAb hT Tryz.func226 rfl rfl rfl rfl ?_;intro E hE
 refine ww ?_
 refine wwc hr ?_
 refine ww ?_
 exact wwr
theorem SplitP_spec (s:List UInt8) (hs:s.length≤1000):Spec Tryz.prog 155 [.d (.str s)] [] (fun r h'=>r=.tup [.d (.str (splitP s).1),.d (.str (splitP s).2.1),.d (.bool (fullP s)),.d (.int .i64 (splitP s).2.2)]∧h'=[]):=by
 have ht:=TrimR_spec s (by omega)
 have hlt:(trimF s).length≤s.length:=qBw s
 generalize hfu:fullP s=fu
 unfold fullP at hfu
 generalize hr:splitP s=res at *
 unfold splitP at hr
 refine qAb hT Tryz.func155 rfl rfl rfl rfl ?_;intro E hE
 refine ww ?_
 refine qAa rfl (fun c1=>?_) (fun c1=>?_)
 ·rw [if_pos (by simp at c1;omega)] at hr
  subst hr
  subst hfu
  refine ww ?_
  exact wwr
 rw [if_neg (by simp at c1;omega)] at hr
 refine ww ?_
 refine qAn (ι:=Nat) (fun i=>[(0,.d (.str s)),(19,.d (.int .i64 (s.length:Int))),(20,.d (.int .i64 (i:Int)))]) (fun _=>[]) (fun i=>i≤s.length∧isFld (s.drop i)=isFld s) (fun i=>s.length-i) 0 ⟨by omega,by simp⟩ ⟨.refl _,.refl _,.refl _,trivial⟩ (HLe.refl _) ?_
 rintro i ⟨hi,hg⟩
 have hwr:IntKind.i64.wrap ((i:Int)+1)=((i+1:Nat):Int):=by rw [qAd (by omega)];simp
 refine ww ?_
 refine qAa rfl (fun h1=>?_) (fun h1=>?_)
 ·have h1':i < s.length:=by simpa using h1
  have hsa:=qBu h1'
  have hl:=letterP_spec (strAt s (i:Int))
  rw [qCl h1',isFld,List.all_cons] at hg
  have hup:=isUp_dec s[i]
  have hbe:=bI_eq (c:=s[i]) (n:=60) (by omega)
  generalize s[i]=c at hsa hg hup hbe
  rw [hsa,← hup] at hl
  rw [← hsa] at hl
  refine ww ?_
  refine wwc hl ?_
  refine ww ?_
  refine qAa rfl (fun h2=>?_) (fun h2=>?_)
  ·have h2':(decide (c=60)||isUp c)=false:=by
    rw [hsa] at h2
    have hbe':(bI c != 60)=!decide (c=60):=by unfold bne;exact congrArg _ hbe
    rw [hbe'] at h2
    simp at h2 ⊢
    exact ⟨h2.2,h2.1⟩
   rw [h2',Bool.false_and] at hg
   rw [← hg,if_pos rfl] at hr
   subst hr
   subst hfu
   refine ww ?_
   exact wwr
  ·have h2':(decide (c=60)||isUp c)=true:=by
    rw [hsa] at h2
    have hbe':(bI c != 60)=!decide (c=60):=by unfold bne;exact congrArg _ hbe
    rw [hbe'] at h2
    cases hu:isUp c
    ·rw [hu] at h2;simp at h2;simp [h2]
    ·simp
   rw [h2',Bool.true_and] at hg
   refine ww ?_
   exact ⟨i+1,⟨h1',hg⟩,by omega,⟨.refl _,.refl _,.int hwr,trivial⟩,HLe.refl _⟩
 have h1':i=s.length:=by simp at h1;omega
 subst h1'
 rw [List.drop_length] at hg
 rw [← hg,if_neg (by simp [isFld])] at hr
 have hcut:=Cut_spec (trimF s) [60,60] (by omega)
 have hlc:=cut_le (trimF s) [60,60]
 refine ww ?_
 refine wwc ht ?_
 refine ww ?_
 refine wwc hcut ?_
 generalize (Lib.cut (trimF s) [60,60]).1=q1 at *
 generalize (Lib.cut (trimF s) [60,60]).2.1=q2 at *
 generalize (Lib.cut (trimF s) [60,60]).2.2=q3 at *
 have hw1:=words_spec q1 60 (by omega) (by decide)
 have hw2:=words_spec q2 60 (by omega) (by decide)
 have hs1:=Split1_spec q1 (by omega)
 have hs2:=Split1_spec q2 (by omega)
 refine ww ?_
 refine wwgc hw1 ?_
 refine ww ?_
 refine wwgc hw2 ?_
 refine ww ?_
 refine qAa rfl (fun c3=>?_) (fun c3=>?_)
 ·rw [if_pos (by simpa [or_assoc] using c3)] at hr
  subst hr
  subst hfu
  refine ww ?_
  exact wwr
 rw [if_neg (by simpa [or_assoc,and_assoc] using c3)] at hr
 subst hr
 simp only [decide_true,Bool.true_and] at hfu
 refine ww ?_
 refine wwc hs1 ?_
 refine ww ?_
 refine wwc hs2 ?_
 refine ww ?_
 have hfv:(((trimF s).length:Int) == (s.length:Int))=fu:=by
  rw [← hfu]
  by_cases h:(trimF s).length=s.length
  ·simp [h]
  ·rw [decide_eq_false h];simp;omega
 subst hfv
 exact rq ⟨rfl,rfl⟩ rfl (.refl _)
end Tdoc
/- zone.format. -/
set_option maxHeartbeats 8000000
set_option maxRecDepth 100000
set_option linter.unusedVariables false
set_option linter.unusedSimpArgs false
namespace Tdoc
open Go Go.Proofs
def strsD (ls:List (List UInt8)):List (List Dat):=ls.map fun s=>[.str s]
def idxW (n:Int):Int→List (List UInt8)→Int
 | _,[]=>-1
 | k,s::l=>if ((s.length:Int) != n)=true then k else idxW n (k+1) l
def offW (n:Int) (ls:List (List UInt8)):Bool:=ls.any fun s=>(s.length:Int) != n
theorem idxW_ge (n:Int):∀ (ls:List (List UInt8)) (k:Int),0≤k→decide (idxW n k ls≥0)=offW n ls
 | [],k,_=>by simp [idxW,offW]
 | s::l,k,hk=>by
  have ih:=idxW_ge n l (k+1) (by omega)
  rw [idxW]
  unfold offW at ih ⊢
  rw [List.any_cons,← ih]
  cases h:((s.length:Int) != n)
  ·rw [if_neg (by simp)];simp
  ·rw [if_pos rfl];simp;omega
theorem strsD_at {ls:List (List UInt8)} {i:Nat} (h:i < ls.length):(strsD ls)[i]?=some [.str (ls.getD i [])]:=by
 unfold strsD
 rw [List.getElem?_map,List.getD_eq_getElem?_getD,List.getElem?_eq_getElem h];rfl
theorem fmt1_spec (s:List UInt8) (n:Int):Spec Tryz.prog 219 [.d (.str s),.ptr 0 0] [.row [.d (.int .i64 n)]] (fun r h'=>r=.d (.bool ((s.length:Int) != n))∧h'=[.row [.d (.int .i64 n)]]):=by
 refine qAb hT Tryz.func219 rfl rfl rfl rfl ?_;intro E hE
 refine ww ?_
 exact wwr
theorem IndexW_spec (ls:List (List UInt8)) (n:Int) (hl:ls.length≤1000000):Spec Tryz.prog 253 [.d (.sl 1 (strsD ls)),.fn (.func 219) [] [.ptr 0 0]] [.row [.d (.int .i64 n)]] (fun r h'=>r=.d (.int .i64 (idxW n 0 ls))∧h'=[.row [.d (.int .i64 n)]]):=by
 generalize hfin:idxW n 0 ls=fin
 have hsl:(strsD ls).length=ls.length:=by simp [strsD]
 refine qAb hT Tryz.func253 rfl rfl rfl rfl ?_;intro E hE
 refine ww ?_
 refine qBg (ι:=Nat) (fun i=>[(0,.d (.sl 1 (strsD ls))),(1,.fn (.func 219) [] [.ptr 0 0]),(7,.d (.int .i64 (ls.length:Int))),(8,.d (.int .i64 (i:Int)))]) (fun _=>[.row [.d (.int .i64 n)]])
  (fun i=>i≤ls.length∧idxW n i (ls.drop i)=fin) (fun i=>ls.length-i) 0 ⟨by omega,by simpa using hfin⟩ ⟨.refl _,.refl _,.int (by simp [strsD]),.refl _,trivial⟩ (HLe.refl _) ?_
 rintro i ⟨hi,hg⟩
 have hwr:IntKind.i64.wrap ((i:Int)+1)=((i+1:Nat):Int):=by rw [qAd (by omega)];simp
 refine ww ?_
 refine qAa rfl (fun c1=>?_) (fun c1=>?_)
 rotate_left
 ·have h1':i=ls.length:=by simp at c1;omega
  subst h1'
  rw [List.drop_length,idxW] at hg
  subst hg
  refine ww ?_
  exact wwr
 have h1':i < ls.length:=by simpa using c1
 rw [qCl h1',idxW] at hg
 have hat:=strsD_at h1'
 rw [List.getD_eq_getElem?_getD,List.getElem?_eq_getElem h1',Option.getD_some] at hat
 have hf:=fmt1_spec (ls[i]) n
 generalize ls[i]=s at hat hg hf
 refine ww ?_
 refine qAe (qAc (qAi hT rfl rfl rfl rfl (by omega) (i:=i) hat)) rfl ?_
 refine ww ?_
 refine qAe (callS1 rfl rfl hf [0] (by decide) rfl rfl rfl rfl rfl rfl rfl) rfl ?_
 refine ww ?_
 refine qAa rfl (fun c2=>?_) (fun c2=>?_)
 ·rw [if_pos c2] at hg
  subst hg
  refine ww ?_
  exact wwr
 ·rw [if_neg (by rw [c2];simp)] at hg
  refine ww ?_
  exact ⟨i+1,[],⟨h1',hg⟩,by omega,⟨.refl _,.refl _,.refl _,.int hwr,trivial⟩,HLe.refl _,Env.below_mono hE (by simp),rfl,rfl⟩
theorem ContainsW_spec (ls:List (List UInt8)) (n:Int) (hl:ls.length≤1000000):Spec Tryz.prog 218 [.d (.sl 1 (strsD ls)),.fn (.func 219) [] [.ptr 0 0]] [.row [.d (.int .i64 n)]] (fun r h'=>r=.d (.bool (offW n ls))∧h'=[.row [.d (.int .i64 n)]]):=by
 have hi:=IndexW_spec ls n hl
 have hge:=idxW_ge n ls 0 (by omega)
 rw [← hge]
 refine qAb hT Tryz.func218 rfl rfl rfl rfl ?_;intro E hE
 refine ww ?_
 refine qAe (callS1 rfl rfl hi [0] (by decide) rfl rfl rfl rfl rfl rfl rfl) rfl ?_
 refine ww ?_
 exact wwr
def formF (ls:List (List UInt8)):Int :=
 if ls.length=2∧offW 44 ls=false then 3 else if ls.length=2∧offW 36 ls=false then 2 else if ls.length=3∧offW 30 ls=false then 1 else 0
theorem formF_shape (ls:List (List UInt8)):formF ls=shapeF ls:=by
 unfold formF shapeF offW
 rcases ls with _ | ⟨a,_ | ⟨b,_ | ⟨c,_ | ⟨d,l⟩⟩⟩⟩
 ·simp
 ·simp
 ·simp
  by_cases h1:a.length=44 <;> by_cases h2:b.length=44 <;> by_cases h3:a.length=36 <;> by_cases h4:b.length=36 <;> simp_all <;> omega
 ·simp
  by_cases h1:a.length=30 <;> by_cases h2:b.length=30 <;> by_cases h3:c.length=30 <;> simp_all <;> omega
 ·simp
def restW (ls:List (List UInt8)) (i:Nat):Int:=match i with
 | 0=>formF ls
 | 1=>if ls.length=2∧offW 36 ls=false then 2 else if ls.length=3∧offW 30 ls=false then 1 else 0
 | 2=>if ls.length=3∧offW 30 ls=false then 1 else 0
 | _=>0
theorem format_spec (ls:List (List UInt8)) (hl:ls.length≤1000000):Spec Tryz.prog 151 [.d (.sl 1 (strsD ls))] [] (fun r h'=>r=.d (.int .i64 (shapeF ls))∧h'=[]):=by
 have c3:=ContainsW_spec ls 44 hl
 have c2:=ContainsW_spec ls 36 hl
 have c1:=ContainsW_spec ls 30 hl
 have l3:=layout_spec 3
 have l2:=layout_spec 2
 have l1:=layout_spec 1
 rw [← formF_shape]
 have hsl:(strsD ls).length=ls.length:=by simp [strsD]
 generalize hfin:formF ls=fin
 refine qAb hT Tryz.func151 rfl rfl rfl rfl ?_;intro E hE
 refine ww ?_
 refine qBg (ι:=Nat) (fun i=>[(0,.d (.sl 1 (strsD ls))),(8,.d (.sl 1 [[.int .i64 3],[.int .i64 2],[.int .i64 1]])),(9,.d (.int .i64 3)),(10,.d (.int .i64 (i:Int)))]) (fun _=>[])
  (fun i=>i≤3∧restW ls i=fin) (fun i=>3-i) 0 ⟨by omega,hfin⟩ ⟨.refl _,.dat,.refl _,.refl _,trivial⟩ (HLe.refl _) ?_
 rintro i ⟨hi,hg⟩
 have h4:i=0∨i=1∨i=2∨i=3:=by omega
 rcases h4 with rfl | rfl | rfl | rfl
 ·have hg':(if ls.length=2∧offW 44 ls=false then 3 else restW ls 1)=fin:=hg
  refine ww ?_
  refine qAa rfl (fun c0=>?_) (fun c0=>?_)
  rotate_left
  ·exact absurd c0 (by simp)
  refine ww ?_
  refine qAe (qAc (qAi hT rfl rfl rfl rfl (by decide) (el:=[.int .i64 3]) rfl)) rfl ?_
  refine ww ?_
  refine wwc l3 ?_
  refine ww ?_
  refine qAy rfl rfl rfl (fun hg=>⟨(sg (C:=True) hg).1,callS1 rfl rfl c3 [1] (by decide) rfl rfl rfl rfl rfl rfl rfl⟩) ?_
  refine ww ?_
  refine qAa rfl (fun cc=>?_) (fun cc=>?_)
  ·have cc':ls.length=2∧offW 44 ls=false:=by
    have e:layN 3=2:=rfl
    rw [hsl,e] at cc
    simp at cc
    exact ⟨by omega,cc.2⟩
   rw [if_pos cc'] at hg'
   subst hg'
   refine ww ?_
   exact rq ⟨rfl,rfl⟩ rfl (.refl _)
  ·have cc':¬ (ls.length=2∧offW 44 ls=false):=by
    have e:layN 3=2:=rfl
    rw [hsl,e] at cc
    rintro ⟨h1,h2⟩
    rw [h1,h2] at cc
    exact absurd cc (by simp)
   rw [if_neg cc'] at hg'
   refine ww ?_
   exact ⟨1,[_,_],⟨by omega,hg'⟩,by omega,⟨.refl _,.refl _,.refl _,.refl _,trivial⟩,HLe.refl _,hE,rfl,rfl⟩
 ·have hg':(if ls.length=2∧offW 36 ls=false then 2 else restW ls 2)=fin:=hg
  refine ww ?_
  refine qAa rfl (fun c0=>?_) (fun c0=>?_)
  rotate_left
  ·exact absurd c0 (by simp)
  refine ww ?_
  refine qAe (qAc (qAi hT rfl rfl rfl rfl (by decide) (el:=[.int .i64 2]) rfl)) rfl ?_
  refine ww ?_
  refine wwc l2 ?_
  refine ww ?_
  refine qAy rfl rfl rfl (fun hg=>⟨(sg (C:=True) hg).1,callS1 rfl rfl c2 [1] (by decide) rfl rfl rfl rfl rfl rfl rfl⟩) ?_
  refine ww ?_
  refine qAa rfl (fun cc=>?_) (fun cc=>?_)
  ·have cc':ls.length=2∧offW 36 ls=false:=by
    have e:layN 2=2:=rfl
    rw [hsl,e] at cc
    simp at cc
    exact ⟨by omega,cc.2⟩
   rw [if_pos cc'] at hg'
   subst hg'
   refine ww ?_
   exact rq ⟨rfl,rfl⟩ rfl (.refl _)
  ·have cc':¬ (ls.length=2∧offW 36 ls=false):=by
    have e:layN 2=2:=rfl
    rw [hsl,e] at cc
    rintro ⟨h1,h2⟩
    rw [h1,h2] at cc
    exact absurd cc (by simp)
   rw [if_neg cc'] at hg'
   refine ww ?_
   exact ⟨2,[_,_],⟨by omega,hg'⟩,by omega,⟨.refl _,.refl _,.refl _,.refl _,trivial⟩,HLe.refl _,hE,rfl,rfl⟩
 ·have hg':(if ls.length=3∧offW 30 ls=false then 1 else restW ls 3)=fin:=hg
  refine ww ?_
  refine qAa rfl (fun c0=>?_) (fun c0=>?_)
  rotate_left
  ·exact absurd c0 (by simp)
  refine ww ?_
  refine qAe (qAc (qAi hT rfl rfl rfl rfl (by decide) (el:=[.int .i64 1]) rfl)) rfl ?_
  refine ww ?_
  refine wwc l1 ?_
  refine ww ?_
  refine qAy rfl rfl rfl (fun hg=>⟨(sg (C:=True) hg).1,callS1 rfl rfl c1 [1] (by decide) rfl rfl rfl rfl rfl rfl rfl⟩) ?_
  refine ww ?_
  refine qAa rfl (fun cc=>?_) (fun cc=>?_)
  ·have cc':ls.length=3∧offW 30 ls=false:=by
    have e:layN 1=3:=rfl
    rw [hsl,e] at cc
    simp at cc
    exact ⟨by omega,cc.2⟩
   rw [if_pos cc'] at hg'
   subst hg'
   refine ww ?_
   exact rq ⟨rfl,rfl⟩ rfl (.refl _)
  ·have cc':¬ (ls.length=3∧offW 30 ls=false):=by
    have e:layN 1=3:=rfl
    rw [hsl,e] at cc
    rintro ⟨h1,h2⟩
    rw [h1,h2] at cc
    exact absurd cc (by simp)
   rw [if_neg cc'] at hg'
   refine ww ?_
   exact ⟨3,[_,_],⟨by omega,hg'⟩,by omega,⟨.refl _,.refl _,.refl _,.refl _,trivial⟩,HLe.refl _,hE,rfl,rfl⟩
 ·have hg':0=fin:=hg
  subst hg'
  refine ww ?_
  refine qAa rfl (fun c0=>?_) (fun c0=>?_)
  ·exact absurd c0 (by simp)
  refine ww ?_
  exact wwr
end Tdoc
/- zone.Parse. -/
set_option maxHeartbeats 8000000
set_option maxRecDepth 100000
set_option linter.unusedVariables false
set_option linter.unusedSimpArgs false
namespace Tdoc
open Go Go.Proofs
def coreG (f:Int) (L:List Int) (ls:List (List UInt8)) (cg:List UInt8):Zon×Int :=
 if restG L ls cg 0=false then (zon0,13)
 else if (numG f (fldG L ls 4) (fldG L ls 3) (fldG L ls 11)).2.2≠0 then (zon0,(numG f (fldG L ls 4) (fldG L ls 3) (fldG L ls 11)).2.2)
 else if (splitP (fldG L ls 2)).2.2≠0 then (zon0,(splitP (fldG L ls 2)).2.2)
 else if validZ ⟨f,trimF (fldG L ls 0),trimF (fldG L ls 1),(splitP (fldG L ls 2)).1,(splitP (fldG L ls 2)).2.1,(numG f (fldG L ls 4) (fldG L ls 3) (fldG L ls 11)).1,trimF (fldG L ls 5),fldG L ls 6,fldG L ls 8,fldG L ls 9,(numG f (fldG L ls 4) (fldG L ls 3) (fldG L ls 11)).2.1,trimF (fldG L ls 13)⟩≠0
 then (zon0,validZ ⟨f,trimF (fldG L ls 0),trimF (fldG L ls 1),(splitP (fldG L ls 2)).1,(splitP (fldG L ls 2)).2.1,(numG f (fldG L ls 4) (fldG L ls 3) (fldG L ls 11)).1,trimF (fldG L ls 5),fldG L ls 6,fldG L ls 8,fldG L ls 9,(numG f (fldG L ls 4) (fldG L ls 3) (fldG L ls 11)).2.1,trimF (fldG L ls 13)⟩)
 else (⟨f,trimF (fldG L ls 0),trimF (fldG L ls 1),(splitP (fldG L ls 2)).1,(splitP (fldG L ls 2)).2.1,(numG f (fldG L ls 4) (fldG L ls 3) (fldG L ls 11)).1,trimF (fldG L ls 5),fldG L ls 6,fldG L ls 8,fldG L ls 9,(numG f (fldG L ls 4) (fldG L ls 3) (fldG L ls 11)).2.1,trimF (fldG L ls 13)⟩,0)
theorem spaceF_len (s:List UInt8):(spaceF s).length=s.length:=by simp [spaceF]
theorem splitP_len (s:List UInt8):(splitP s).1.length≤s.length∧(splitP s).2.1.length≤s.length:=by
 have h1:=qBw s
 have h2:=cut_le (trimF s) [60,60]
 unfold splitP
 split
 ·simp
 split
 ·simp
 split
 ·simp
 ·simp only [spaceF_len];omega
theorem numG_len (f:Int) (a b c:List UInt8):(numG f a b c).1.length≤b.length+c.length∧(numG f a b c).2.1.length≤c.length:=by
 have h1:=qBw b
 have h2:=qBw c
 have h3:=qBw (c.drop (lenTo c+1))
 simp only [List.length_drop] at h3
 unfold numG
 split
 ·simp only;omega
 split
 ·simp
 split
 ·simp
 ·simp only [List.length_append,List.length_take];omega
theorem coreG_len (f:Int) (L:List Int) (ls:List (List UInt8)) (hw:∀ i,i < 15→(fldG L ls i).length≤1000):zLen ⟨f,trimF (fldG L ls 0),trimF (fldG L ls 1),(splitP (fldG L ls 2)).1,(splitP (fldG L ls 2)).2.1,(numG f (fldG L ls 4) (fldG L ls 3) (fldG L ls 11)).1,trimF (fldG L ls 5),fldG L ls 6,fldG L ls 8,fldG L ls 9,(numG f (fldG L ls 4) (fldG L ls 3) (fldG L ls 11)).2.1,trimF (fldG L ls 13)⟩:=by
 have t0:=qBw (fldG L ls 0)
 have t1:=qBw (fldG L ls 1)
 have t5:=qBw (fldG L ls 5)
 have t13:=qBw (fldG L ls 13)
 have w0:=hw 0 (by omega)
 have w1:=hw 1 (by omega)
 have w2:=hw 2 (by omega)
 have w3:=hw 3 (by omega)
 have w5:=hw 5 (by omega)
 have w6:=hw 6 (by omega)
 have w8:=hw 8 (by omega)
 have w9:=hw 9 (by omega)
 have w11:=hw 11 (by omega)
 have w13:=hw 13 (by omega)
 have s2:=splitP_len (fldG L ls 2)
 have n2:=numG_len f (fldG L ls 4) (fldG L ls 3) (fldG L ls 11)
 unfold zLen
 simp only
 omega
theorem layD_len (f:Int):(layD f).length=45:=by unfold layD;split;rfl;split;rfl;split;rfl;simp
theorem linesD_take {ls:List (List UInt8)} {k:Nat} (h:k < ls.length):linesD (ls.take (k+1))=linesD (ls.take k)++[[.sl 1 (encB (ls.getD k []))]]:=by
 unfold linesD
 rw [List.take_add_one,List.map_append,List.getElem?_eq_getElem h,List.getD_eq_getElem?_getD,List.getElem?_eq_getElem h]
 rfl
theorem intsA_len (L:List Int):(intsA L).length=L.length:=by simp [intsA]
theorem AllLe_app:∀ (l:List AV) {x y:AV},AV.le x y→AllLe (l++[x]) (l++[y])
 | [],x,y,h=>⟨h,trivial⟩
 | a::l,x,y,h=>⟨.refl _,AllLe_app l h⟩
theorem shC_app (L:List Int) (ls:List (List UInt8)):shC L ls=intsA L++[.d (.sl 1 (linesD ls))]:=by simp [shC,shD,intsA,Function.comp_def]
theorem low_ints (k:Nat) (L:List Int):lowL k (intsA L)=true:=by
 unfold intsA
 induction L with
 | nil=>rfl
 | cons a l ih=>simp [low,lowL] at ih ⊢;exact ih
theorem Parse_bad (ls:List (List UInt8)) (hl:ls.length≤1000000) (h0:shapeF ls=0) :
  Spec Tryz.prog 90 [.d (.sl 1 (strsD ls))] [] (fun r h'=>r=.tup [zAV zon0,.d (.int .i64 2)]∧h'=[]):=by
 have hfm:=format_spec ls hl
 rw [h0] at hfm
 refine qAb hT Tryz.func90 rfl rfl rfl rfl ?_;intro E hE
 refine ww ?_
 refine wwc hfm ?_
 refine ww ?_
 refine qAa rfl (fun c1=>?_) (fun c1=>?_)
 ·refine ww ?_
  exact wwr
 ·exact absurd c1 (by simp)
theorem Parse_walk (ls:List (List UInt8)) (f:Int) (cg:List UInt8) (hl:ls.length≤1000) (hsh:shapeF ls=f) (hf:f≠0) (hS:OkS (layD f) ls) (hln:∀ k,(ls.getD k []).length≤1000) (hcl:cg.length≤1000)
  (hcomp:Spec Tryz.prog 126 [.ptr 0 0] [.row (shC (layD f) ls)] (fun r h'=>r=.d (.str cg)∧h'=[.row (shC (layD f) ls)])) :
  Spec Tryz.prog 90 [.d (.sl 1 (strsD ls))] [] (fun r h'=>r=.tup [zAV (if ls.all validS=false then (zon0,12) else coreG f (layD f) ls cg).1,.d (.int .i64 (if ls.all validS=false then (zon0,12) else coreG f (layD f) ls cg).2)]∧h'=[]):=by
 have hfm:=format_spec ls (by omega)
 rw [hsh] at hfm
 have hly:=layout_spec f
 have hLl:=layD_len f
 have hchk:=checked_spec2 (layD f) ls cg hS hcl hcomp
 generalize layD f=L at *
 have hLi:(intsA L).length=45:=by rw [intsA_len,hLl]
 have hLL:lowL 0 (intsA L)=true:=low_ints 0 L
 generalize hfin:(if ls.all validS=false then (zon0,12) else coreG f L ls cg)=fin
 refine qAb hT Tryz.func90 rfl rfl rfl rfl ?_;intro E hE
 refine ww ?_
 refine wwc hfm ?_
 refine ww ?_
 refine qAa rfl (fun c1=>?_) (fun c1=>?_)
 ·exact absurd (by simpa using c1) hf
 refine ww ?_
 refine qAe (callS0 rfl rfl hly rfl rfl (by simp [low,lowL,hLL])) rfl ?_
 refine qAe (qAc (move_ok (.inl rfl))) rfl ?_
 refine qAe (qAc (extractA_ok rfl rfl)) rfl ?_
 refine qAe (qAc (extractA_ok rfl rfl)) rfl ?_
 refine qAe (qAc (extractA_ok rfl rfl)) rfl ?_
 refine ww ?_
 refine AWk_op0 (storeAgg_ok hT rfl rfl rfl rfl rfl hLi (by decide) (setRun_head (cells:=List.replicate 45 (.d (.int .i64 0))) (rest:=[.sl 1 [] .full]) (by rw [hLi];rfl))) rfl ?_
 refine ww ?_
 have hlast:∀ (x:AV),(intsA L++[x])[45]?=some x:=fun x=>by rw [List.getElem?_append_right (by omega),hLi];rfl
 have hset:∀ (x y:AV),(intsA L++[x]).set 45 y=intsA L++[y]:=fun x y=>by
  rw [List.set_append_right _ _ (by omega),hLi];rfl
 have hlen46:∀ (x:AV),45 < (intsA L++[x]).length:=fun x=>by simp [hLi]
 have hsl:(strsD ls).length=ls.length:=by simp [strsD]
 have hlow3:∀ (es:List (List Dat)) (n:Nat),lowH 3 [.row (zCells zon0),.row (intsA L++[.sl 1 es (.right 2)]),.right 1 n]=true:=fun es n=>by
  have h1:lowL 3 (intsA L++[.sl 1 es (.right 2)])=true:=by
   have h2:=low_ints 3 L
   generalize intsA L=l at h2 ⊢
   induction l with
   | nil=>rfl
   | cons a l ih=>simp only [lowL,Bool.and_eq_true,List.cons_append] at h2 ⊢;exact ⟨h2.1,ih h2.2⟩
  simp only [lowH,lowO,h1]
  rfl
 refine qAq (AW_acquireH 1 45 2 1 rfl (hlast _) rfl ?_)
 rw [hset]
 refine qBg (ι:=Nat) (fun k=>[(0,.d (.sl 1 (strsD ls))),(2,.ptr 0 0),(4,.d (.int .i64 f)),(5,.ptr 1 0),(32,.d (.sl 1 (strsD ls))),(33,.d (.int .i64 (ls.length:Int))),(34,.d (.int .i64 (k:Int)))])
  (fun k=>[.row (zCells zon0),.row (intsA L++[.sl 1 (linesD (ls.take k)) (.right 2)]),.right 1 (linesD (ls.take k)).length])
  (fun k=>k≤ls.length∧(ls.drop k).all validS=ls.all validS) (fun k=>ls.length-k) 0 ⟨by omega,by simp⟩ ⟨.refl _,.refl _,.refl _,.refl _,.refl _,.int (by rw [hsl]),.refl _,trivial⟩ (HLe.refl _) ?_
 rintro k ⟨hk,hg⟩
 have hwr:IntKind.i64.wrap ((k:Int)+1)=((k+1:Nat):Int):=by rw [qAd (by omega)];simp
 refine ww ?_
 refine qAa rfl (fun c2=>?_) (fun c2=>?_)
 ·have hk':k < ls.length:=by simpa using c2
  have hat:=strsD_at hk'
  have htk:=linesD_take hk'
  have hvl:=ValidP_spec (ls.getD k []) (by have:=hln k;omega)
  rw [qCl hk',List.all_cons] at hg
  have hgd:ls.getD k []=ls[k]:=by rw [List.getD_eq_getElem?_getD,List.getElem?_eq_getElem hk'];rfl
  rw [← hgd] at hg
  generalize ls.getD k []=s at hat htk hvl hg
  have hll:(linesD (ls.take k)).length≤1000:=by simp [linesD];omega
  refine ww ?_
  refine qAe (qAc (qAi hT rfl rfl rfl rfl (by omega) (i:=(k:Int)) hat)) rfl ?_
  refine ww ?_
  refine wwc hvl ?_
  refine ww ?_
  refine qAa rfl (fun c3=>?_) (fun c3=>?_)
  ·have hv:validS s=false:=by simpa using c3
   rw [hv,Bool.false_and] at hg
   rw [← hg,if_pos rfl] at hfin
   subst hfin
   refine ww ?_
   exact wwr
  have hv:validS s=true:=by simpa using c3
  rw [hv,Bool.true_and] at hg
  refine ww ?_
  refine qAe (qBk hT rfl rfl rfl rfl rfl (hlast _)) rfl ?_
  refine ww ?_
  refine qAe (strBytes_ok (s:=s) hT rfl rfl rfl) rfl ?_
  refine ww ?_
  refine qAe (qAk (i:=2) hT rfl rfl rfl rfl rfl rfl (by show ((linesD (ls.take k)).length+1)*(24+1)≤_;omega)) rfl ?_
  refine ww ?_
  refine AWk_op0 (store1_ok hT rfl rfl rfl rfl rfl rfl (hlen46 _)) rfl ?_
  refine ww ?_
  rw [hset]
  exact ⟨k+1,[],⟨hk',hg⟩,by omega,⟨.refl _,.refl _,.refl _,.refl _,.refl _,.refl _,.int hwr,trivial⟩,⟨ObLe.refl _,AllLe_app _ (AV.le.slt htk.symm),⟨rfl,by rw [htk];rfl⟩,trivial⟩,Env.below_mono hE (by simp),rfl,hlow3 _ _⟩
 have hk':k=ls.length:=by simp at c2;omega
 subst hk'
 rw [List.drop_length] at hg
 rw [← hg,if_neg (by simp)] at hfin
 rw [List.take_length]
 refine wwe ?_
 have hzl:lowL 2 (zCells zon0)=true:=rfl
 refine AW_cut (l:=[(2,.ptr 0 0),(4,.d (.int .i64 f)),(5,.ptr 1 0)]) [.row (zCells zon0),.row (shC L ls)] [.dead] (Env.below_mono hE (by simp)) ⟨.refl _,.refl _,.refl _,trivial⟩ rfl ⟨ObLe.refl _,by show AllLe _ _;rw [shC_app];exact AllLe_app _ AV.le.dat,trivial,trivial⟩ (by simp only [lowH,lowO,hzl,shC,lowL_d];rfl) ?_
 have hlw:=qCf 0 L ls
 have hzl2:=coreG_len f L ls hS.wid
 unfold coreG at hfin
 refine ww ?_
 refine qAe (callS1 rfl rfl hchk [1] (by decide) rfl rfl rfl hlw hlw rfl rfl) rfl ?_
 refine ww ?_
 refine qAa rfl (fun c4=>?_) (fun c4=>?_)
 ·rw [if_pos (by simpa using c4)] at hfin
  subst hfin
  refine ww ?_
  exact wwr
 rw [if_neg (by simpa using c4)] at hfin
 have hnum:=numbers_spec L ls f hS
 generalize numG f (fldG L ls 4) (fldG L ls 3) (fldG L ls 11)=nm at *
 refine ww ?_
 refine qAe (callS1 rfl rfl hnum [1] (by decide) rfl rfl rfl hlw hlw rfl rfl) rfl ?_
 refine ww ?_
 refine qAa rfl (fun c5=>?_) (fun c5=>?_)
 ·rw [if_pos (by simpa using c5)] at hfin
  subst hfin
  refine ww ?_
  exact wwr
 rw [if_neg (by simpa using c5)] at hfin
 have hg2:=get_spec L ls 2 (by omega) hS.len (hS.all 2 (by omega))
 have hspl:=SplitP_spec (fldG L ls 2) (hS.wid 2 (by omega))
 refine ww ?_
 refine qAe (callS1 rfl rfl hg2 [1] (by decide) rfl rfl rfl hlw hlw rfl rfl) rfl ?_
 refine ww ?_
 generalize splitP (fldG L ls 2)=sp at *
 refine wwc hspl ?_
 refine ww ?_
 refine qAa rfl (fun c6=>?_) (fun c6=>?_)
 ·rw [if_pos (by simpa using c6)] at hfin
  subst hfin
  refine ww ?_
  exact wwr
 rw [if_neg (by simpa using c6)] at hfin
 have hv0:=value_spec L ls 0 (by omega) hS.len (hS.all 0 (by omega)) (by have:=hS.wid 0 (by omega);omega)
 have hv1:=value_spec L ls 1 (by omega) hS.len (hS.all 1 (by omega)) (by have:=hS.wid 1 (by omega);omega)
 have hv5:=value_spec L ls 5 (by omega) hS.len (hS.all 5 (by omega)) (by have:=hS.wid 5 (by omega);omega)
 have hv13:=value_spec L ls 13 (by omega) hS.len (hS.all 13 (by omega)) (by have:=hS.wid 13 (by omega);omega)
 have hg6:=get_spec L ls 6 (by omega) hS.len (hS.all 6 (by omega))
 have hg8:=get_spec L ls 8 (by omega) hS.len (hS.all 8 (by omega))
 have hg9:=get_spec L ls 9 (by omega) hS.len (hS.all 9 (by omega))
 generalize hz:Zon.mk f (trimF (fldG L ls 0)) (trimF (fldG L ls 1)) sp.1 sp.2.1 nm.1 (trimF (fldG L ls 5)) (fldG L ls 6) (fldG L ls 8) (fldG L ls 9) nm.2.1 (trimF (fldG L ls 13))=z at hfin
 have hvz:=ZValid_spec z (by subst hz;exact hzl2)
 have hzc:zCells z=[.d (.int .i64 f),.d (.str (trimF (fldG L ls 0))),.d (.str (trimF (fldG L ls 1))),.d (.str sp.1),.d (.str sp.2.1),.d (.str nm.1),.d (.str (trimF (fldG L ls 5))),.d (.str (fldG L ls 6)),.d (.str (fldG L ls 8)),.d (.str (fldG L ls 9)),.d (.str nm.2.1),.d (.str (trimF (fldG L ls 13)))]:=by subst hz;rfl
 unfold zAV at hvz
 rw [hzc] at hvz
 refine ww ?_
 refine qAe (callS1 rfl rfl hv0 [1] (by decide) rfl rfl rfl hlw hlw rfl rfl) rfl ?_
 refine ww ?_
 refine qAe (callS1 rfl rfl hv1 [1] (by decide) rfl rfl rfl hlw hlw rfl rfl) rfl ?_
 refine ww ?_
 refine qAe (callS1 rfl rfl hv5 [1] (by decide) rfl rfl rfl hlw hlw rfl rfl) rfl ?_
 refine ww ?_
 refine qAe (callS1 rfl rfl hg6 [1] (by decide) rfl rfl rfl hlw hlw rfl rfl) rfl ?_
 refine ww ?_
 refine qAe (callS1 rfl rfl hg8 [1] (by decide) rfl rfl rfl hlw hlw rfl rfl) rfl ?_
 refine ww ?_
 refine qAe (callS1 rfl rfl hg9 [1] (by decide) rfl rfl rfl hlw hlw rfl rfl) rfl ?_
 refine ww ?_
 refine qAe (callS1 rfl rfl hv13 [1] (by decide) rfl rfl rfl hlw hlw rfl rfl) rfl ?_
 refine ww ?_
 refine wwc hvz ?_
 refine ww ?_
 refine qAa rfl (fun c7=>?_) (fun c7=>?_)
 ·rw [if_pos (by simpa using c7)] at hfin
  subst hfin
  refine ww ?_
  exact wwr
 rw [if_neg (by simpa using c7)] at hfin
 subst hfin
 refine ww ?_
 unfold zAV
 rw [hzc]
 exact wwr
end Tdoc
/- zone.Parse says what the law of zones says. -/
set_option linter.unusedVariables false
set_option linter.unusedSimpArgs false
namespace Tdoc
open Go Go.Proofs
theorem qAu (s:List UInt8) (a b:Nat):cutL s (a:Int) (b:Int)=cutS s a b:=by
 unfold cutL cutS
 rw [Int.toNat_natCast,Int.toNat_natCast,List.drop_take]
theorem numG_numF (f:Int) (x:Fl) (hn:validS x.num=true) (ho:validS x.opt=true):numG f x.dg x.num x.opt=numF f x:=by
 have hv:validS (x.num++x.opt.take (lenTo x.opt-1))=true:=validS_mem.2 fun c hc=>by
  rcases List.mem_append.1 hc with h | h
  ·exact validS_mem.1 hn c h
  ·exact validS_mem.1 ho c (List.mem_of_mem_take h)
 unfold numG numF
 rw [digitF_ok hv]
 simp only
 by_cases h1:x.dg≠[60]
 ·rw [if_pos h1,if_pos h1]
 rw [if_neg h1,if_neg h1]
 by_cases h2:f=3∨lenTo x.opt < 2∨lenTo x.opt=x.opt.length
 ·rw [if_pos h2,if_pos (by omega)]
 rw [if_neg h2,if_neg (by omega)]
 by_cases h3:[x.opt.getD (lenTo x.opt-1) 0]≠digitS (x.num++x.opt.take (lenTo x.opt-1))
 ·rw [if_pos h3,if_pos (fun h=>h3 h.symm)]
 ·rw [if_neg h3,if_neg (fun h=>h3 (fun h'=>h h'.symm))]
theorem core_agree (f:Int) (L:List Int) (ls:List (List UInt8)) (cg:List UInt8) (x:Fl)
  (h0:fldG L ls 0=x.kind) (h1:fldG L ls 1=x.state) (h2:fldG L ls 2=x.names) (h3:fldG L ls 3=x.num) (h4:fldG L ls 4=x.dg) (h5:fldG L ls 5=x.nat) (h6:fldG L ls 6=x.bir) (h7:fldG L ls 7=x.bd)
  (h8:fldG L ls 8=x.sex) (h9:fldG L ls 9=x.exp) (h10:fldG L ls 10=x.ed) (h11:fldG L ls 11=x.opt) (h12:fldG L ls 12=x.od) (h13:fldG L ls 13=x.sec) (h14:fldG L ls 14=x.comp)
  (hp:plC L 12=0↔f≠3) (v3:validS x.num=true) (v6:validS x.bir=true) (v9:validS x.exp=true) (v11:validS x.opt=true) (va:validS x.all=true) (hc:cg=x.all):coreG f L ls cg=coreZ f x:=by
 have hr:restG L ls cg 0=chkF f x:=by
  unfold restG chkF okP endG dgG
  simp only [h3,h4,h6,h7,h9,h10,h11,h12,h14,hc,digitF_ok v3,digitF_ok v6,digitF_ok v9,digitF_ok v11,digitF_ok va]
  have e1:decide (plC L 12=0∨(Lib.trimB x.opt 60=[]∧x.od=[60])∨x.od=digitS x.opt)=decide (f≠3∨x.od=digitS x.opt∨(trimF x.opt=[]∧x.od=[60])):=by
   rw [decide_eq_decide,hp,trimB_nil]
   constructor
   ·rintro (h | h | h)
    ·exact .inl h
    ·exact .inr (.inr h)
    ·exact .inr (.inl h)
   ·rintro (h | h | h)
    ·exact .inl h
    ·exact .inr (.inr h)
    ·exact .inr (.inl h)
  rw [e1]
  have e2:(x.comp == digitS x.all)=decide (x.comp=digitS x.all):=by by_cases h:x.comp=digitS x.all <;> simp [h]
  rw [e2]
 unfold coreG coreZ
 rw [hr,h0,h1,h2,h3,h4,h5,h6,h8,h9,h11,h13,numG_numF f x v3 v11,split_agree]
 rfl
theorem qBp {s u:List UInt8} (h:validS s=true) (k:validS u=true):validS (s++u)=true:=validS_mem.2 fun c hc=>by
 rcases List.mem_append.1 hc with h' | h'
 ·exact validS_mem.1 h c h'
 ·exact validS_mem.1 k c h'
theorem cutS_drop (s:List UInt8) (a b:Nat) (h:s.length≤b):cutS s a b=s.drop a:=by unfold cutS;rw [List.take_of_length_le h]
theorem agree1 (a b c:List UInt8) (ha:a.length=30) (hb:b.length=30) (hc:c.length=30) (va:validS a=true) (vb:validS b=true):coreG 1 (layD 1) [a,b,c] (compG [a,b,c])=coreZ 1 (fld1 a b c):=by
 have hcc:cutS c 0 30=c:=by rw [cutS_drop c 0 30 (by omega)];rfl
 refine core_agree 1 _ _ _ _ rfl rfl (Eq.trans rfl hcc) rfl rfl rfl rfl rfl rfl rfl rfl rfl rfl rfl rfl (by decide) (qAp _ _ va) (qAp _ _ vb) (qAp _ _ vb) (qAp _ _ va) ?_ ?_
 ·exact qBp (qBp (qBp (qAp _ _ va) (qAp _ _ vb)) (qAp _ _ vb)) (qAp _ _ vb)
 ·show a.drop 5++b.take 7++cutL b (8:Nat) (15:Nat)++cutL b (18:Nat) (29:Nat)=cutS a 5 30++cutS b 0 7++cutS b 8 15++cutS b 18 29
  rw [qAu,qAu,cutS_drop a 5 30 (by omega)]
  rfl
theorem agree2 (a b:List UInt8) (ha:a.length=36) (hb:b.length=36) (va:validS a=true) (vb:validS b=true):coreG 2 (layD 2) [a,b] (compG [a,b])=coreZ 2 (fld2 a b):=by
 refine core_agree 2 _ _ _ _ rfl rfl rfl rfl rfl rfl rfl rfl rfl rfl rfl rfl rfl rfl rfl (by decide) (qAp _ _ vb) (qAp _ _ vb) (qAp _ _ vb) (qAp _ _ vb) ?_ ?_
 ·exact qBp (qBp (qAp _ _ vb) (qAp _ _ vb)) (qAp _ _ vb)
 ·show b.take 10++cutL b (13:Nat) (20:Nat)++cutL b (21:Nat) ((b.length:Int)-1)=cutS b 0 10++cutS b 13 20++cutS b 21 35
  have e:((b.length:Int)-1)=((35:Nat):Int):=by omega
  rw [e,qAu,qAu]
  rfl
theorem agree3 (a b:List UInt8) (ha:a.length=44) (hb:b.length=44) (va:validS a=true) (vb:validS b=true):coreG 3 (layD 3) [a,b] (compG [a,b])=coreZ 3 (fld3 a b):=by
 refine core_agree 3 _ _ _ _ rfl rfl rfl rfl rfl rfl rfl rfl rfl rfl rfl rfl rfl rfl rfl (by decide) (qAp _ _ vb) (qAp _ _ vb) (qAp _ _ vb) (qAp _ _ vb) ?_ ?_
 ·exact qBp (qBp (qAp _ _ vb) (qAp _ _ vb)) (qAp _ _ vb)
 ·show b.take 10++cutL b (13:Nat) (20:Nat)++cutL b (21:Nat) ((b.length:Int)-1)=cutS b 0 10++cutS b 13 20++cutS b 21 43
  have e:((b.length:Int)-1)=((43:Nat):Int):=by omega
  rw [e,qAu,qAu]
  rfl
theorem fldG_len (L:List Int) (ls:List (List UInt8)) (i:Nat) (h:∀ k,(ls.getD k []).length≤1000):(fldG L ls i).length≤1000:=by
 unfold fldG
 split
 ·simp
 ·have h1:=h (plA L i).toNat
  unfold cutS
  simp only [List.length_drop,List.length_take]
  omega
theorem fifteen {i:Nat} (h:i < 15):i=0∨i=1∨i=2∨i=3∨i=4∨i=5∨i=6∨i=7∨i=8∨i=9∨i=10∨i=11∨i=12∨i=13∨i=14:=by omega
theorem okS1 (a b c:List UInt8) (ha:a.length=30) (hb:b.length=30) (hc:c.length=30) (hln:∀ k,(([a,b,c]:List (List UInt8)).getD k []).length≤1000):OkS (layD 1) [a,b,c]:=by
 refine ⟨rfl,fun i hi=>?_,fun i hi=>fldG_len _ _ _ hln,by decide,by decide,by decide⟩
 rcases fifteen hi with rfl | rfl | rfl | rfl | rfl | rfl | rfl | rfl | rfl | rfl | rfl | rfl | rfl | rfl | rfl <;> first | exact Or.inl rfl | (refine Or.inr ?_;simp [plA,plB,plC,layD,ha,hb,hc])
theorem okS2 (a b:List UInt8) (ha:a.length=36) (hb:b.length=36) (hln:∀ k,(([a,b]:List (List UInt8)).getD k []).length≤1000):OkS (layD 2) [a,b]:=by
 refine ⟨rfl,fun i hi=>?_,fun i hi=>fldG_len _ _ _ hln,by decide,by decide,by decide⟩
 rcases fifteen hi with rfl | rfl | rfl | rfl | rfl | rfl | rfl | rfl | rfl | rfl | rfl | rfl | rfl | rfl | rfl <;> first | exact Or.inl rfl | (refine Or.inr ?_;simp [plA,plB,plC,layD,ha,hb])
theorem okS3 (a b:List UInt8) (ha:a.length=44) (hb:b.length=44) (hln:∀ k,(([a,b]:List (List UInt8)).getD k []).length≤1000):OkS (layD 3) [a,b]:=by
 refine ⟨rfl,fun i hi=>?_,fun i hi=>fldG_len _ _ _ hln,by decide,by decide,by decide⟩
 rcases fifteen hi with rfl | rfl | rfl | rfl | rfl | rfl | rfl | rfl | rfl | rfl | rfl | rfl | rfl | rfl | rfl <;> first | exact Or.inl rfl | (refine Or.inr ?_;simp [plA,plB,plC,layD,ha,hb])
theorem shape_inv {ls:List (List UInt8)} (h:shapeF ls≠0):(∃ a b c,ls=[a,b,c]∧a.length=30∧b.length=30∧c.length=30∧shapeF ls=1)∨(∃ a b,ls=[a,b]∧a.length=36∧b.length=36∧shapeF ls=2)∨(∃ a b,ls=[a,b]∧a.length=44∧b.length=44∧shapeF ls=3):=by
 unfold shapeF at h ⊢
 rcases ls with _ | ⟨a,_ | ⟨b,_ | ⟨c,_ | ⟨d,l⟩⟩⟩⟩
 ·exact absurd rfl h
 ·exact absurd rfl h
 ·right
  simp only at h ⊢
  by_cases h1:a.length=36∧b.length=36
  ·rw [if_pos h1];exact .inl ⟨a,b,rfl,h1.1,h1.2,rfl⟩
  ·rw [if_neg h1] at h ⊢
   by_cases h2:a.length=44∧b.length=44
   ·rw [if_pos h2];exact .inr ⟨a,b,rfl,h2.1,h2.2,rfl⟩
   ·rw [if_neg h2] at h;exact absurd rfl h
 ·left
  simp only at h ⊢
  by_cases h1:a.length=30∧b.length=30∧c.length=30
  ·rw [if_pos h1];exact ⟨a,b,c,rfl,h1.1,h1.2.1,h1.2.2,rfl⟩
  ·rw [if_neg h1] at h;exact absurd rfl h
 ·exact absurd rfl h
theorem getD_le {ls:List (List UInt8)} {n:Nat} (h:∀ s,s∈ls→s.length≤n) (k:Nat):(ls.getD k []).length≤n:=by
 rw [List.getD_eq_getElem?_getD]
 cases hk:ls[k]? with
 | none=>simp
 | some s=>exact h s (List.mem_of_getElem? hk)
theorem ZParse_spec (ls:List (List UInt8)) (hl:ls.length≤1000):Spec Tryz.prog 90 [.d (.sl 1 (strsD ls))] [] (fun r h'=>r=.tup [zAV (parseZ ls).1,.d (.int .i64 (parseZ ls).2)]∧h'=[]):=by
 by_cases h0:shapeF ls=0
 ·have hp:parseZ ls=(zon0,2):=by unfold parseZ;rw [if_pos h0]
  rw [hp]
  exact Parse_bad ls (by omega) h0
 have fin:∀ (f:Int) (z:Zon×Int),(if ls.all validS=false then (zon0,12) else z)=parseZ ls→Spec Tryz.prog 90 [.d (.sl 1 (strsD ls))] [] (fun r h'=>r=.tup [zAV (if ls.all validS=false then (zon0,12) else z).1,.d (.int .i64 (if ls.all validS=false then (zon0,12) else z).2)]∧h'=[])→Spec Tryz.prog 90 [.d (.sl 1 (strsD ls))] [] (fun r h'=>r=.tup [zAV (parseZ ls).1,.d (.int .i64 (parseZ ls).2)]∧h'=[]):=fun f z h S=>by rw [h] at S;exact S
 have hv:∀ (z w:Zon×Int),(ls.all validS=true→z=w)→(if ls.all validS=false then (zon0,12) else z)=(if ls.all validS=false then (zon0,12) else w):=fun z w h=>by
  cases hh:ls.all validS
  ·rfl
  ·rw [h hh]
 rcases shape_inv h0 with ⟨a,b,c,rfl,ha,hb,hc,hs⟩ | ⟨a,b,rfl,ha,hb,hs⟩ | ⟨a,b,rfl,ha,hb,hs⟩
 ·have hln:=getD_le (ls:=[a,b,c]) (n:=1000) (by intro s hs;simp at hs;rcases hs with rfl | rfl | rfl <;> omega)
  refine fin 1 _ ?_ (Parse_walk _ 1 (compG [a,b,c]) (by simp) hs (by decide) (okS1 a b c ha hb hc hln) hln ?_ (composed3_spec (layD 1) a b c rfl ha hb))
  ·unfold parseZ
   rw [if_neg h0]
   refine hv _ _ fun hh=>?_
   simp only [List.all_cons,Bool.and_eq_true] at hh
   exact agree1 a b c ha hb hc hh.1 hh.2.1
  ·simp [compG,cutL];omega
 ·have hln:=getD_le (ls:=[a,b]) (n:=1000) (by intro s hs;simp at hs;rcases hs with rfl | rfl <;> omega)
  refine fin 2 _ ?_ (Parse_walk _ 2 (compG [a,b]) (by simp) hs (by decide) (okS2 a b ha hb hln) hln ?_ (composed2_spec (layD 2) a b rfl (.inl hb)))
  ·unfold parseZ
   rw [if_neg h0]
   refine hv _ _ fun hh=>?_
   simp only [List.all_cons,Bool.and_eq_true] at hh
   show _=if a.length=36 then coreZ 2 (fld2 a b) else coreZ 3 (fld3 a b)
   rw [if_pos ha]
   exact agree2 a b ha hb hh.1 hh.2.1
  ·simp [compG,cutL];omega
 ·have hln:=getD_le (ls:=[a,b]) (n:=1000) (by intro s hs;simp at hs;rcases hs with rfl | rfl <;> omega)
  refine fin 3 _ ?_ (Parse_walk _ 3 (compG [a,b]) (by simp) hs (by decide) (okS3 a b ha hb hln) hln ?_ (composed2_spec (layD 3) a b rfl (.inr hb)))
  ·unfold parseZ
   rw [if_neg h0]
   refine hv _ _ fun hh=>?_
   simp only [List.all_cons,Bool.and_eq_true] at hh
   show _=if a.length=36 then coreZ 2 (fld2 a b) else coreZ 3 (fld3 a b)
   rw [if_neg (by omega)]
   exact agree3 a b ha hb hh.1 hh.2.1
  ·simp [compG,cutL];omega
end Tdoc
/- slices.Chunk: the parts of a list, one after the other. -/
set_option maxHeartbeats 8000000
set_option maxRecDepth 100000
set_option linter.unusedVariables false
set_option linter.unusedSimpArgs false
namespace Tdoc
open Go Go.Proofs
def chunkN (n:Nat) (es:List (List Dat)):Nat:=(es.length+(n-1)) / n
def chunkA (n:Nat) (es:List (List Dat)) (k:Nat):AV:=.d (.sl 1 ((es.drop (k*n)).take n))
def chunksA (n:Nat) (es:List (List Dat)):List AV:=(List.range (chunkN n es)).map (chunkA n es)
theorem chunk_lt {n:Nat} {es:List (List Dat)} {k:Nat} (hn:1≤n):k < chunkN n es↔k*n < es.length:=by
 unfold chunkN
 rw [← Nat.succ_le_iff,Nat.le_div_iff_mul_le (by omega),Nat.succ_mul]
 omega
theorem chunk1_spec (i j n:Nat) (es:List (List Dat)) (hn:1≤n∧n≤1000000000) (hl:es.length≤1000000000) :
  SeqOk Tryz.prog 150 [.ptr i 0,.ptr j 0] (fun h=>h[i]?=some (.row [.d (.sl 1 es)])∧h[j]?=some (.row [.d (.int .i64 (n:Int))])) (chunksA n es):=by
 refine Seq_of_body Tryz.func150 rfl rfl rfl rfl ?_
 intro E l Hs hok hY
 have hlen:(chunksA n es).length=chunkN n es:=by simp [chunksA]
 rw [hlen]
 refine AWF_seq (AWF_region (.inl rfl) rfl ?_)
 refine wws ?_
 refine AWF_block (AWF_loopL (ι:=Nat) (fun k=>[(0,.fn (.yield l) [] []),(1,.ptr i 0),(2,.ptr j 0),(4,.d (.int .i64 ((k*n:Nat):Int)))]) (fun k=>Hs k) (fun k=>k≤chunkN n es) (fun k=>chunkN n es-k) 0 (Nat.zero_le _) ⟨.refl _,.refl _,.refl _,AV.le.int (by simp),trivial⟩ (HLe.refl _) ?_)
 intro k hk
 obtain ⟨h1,h2⟩:=hok k
 have hlt:=chunk_lt (n:=n) (es:=es) (k:=k) hn.1
 have hkn:k*n≤es.length+n:=by
  by_cases h0:k=0
  ·subst h0;simp
  ·have:(k-1)*n < es.length:=(chunk_lt hn.1).1 (by omega)
   have h3:k*n=(k-1)*n+n:=by rw [← Nat.succ_mul];congr 1;omega
   omega
 refine AWF_seq (AWF_seq (AWF_region (.inl rfl) rfl ?_))
 refine wws ?_
 refine qAe (qBk hT rfl rfl h1 rfl rfl rfl) rfl ?_
 refine wws ?_
 refine AWF_condL rfl (fun c1=>?_) (fun c1=>?_)
 ·have c1':k*n < es.length:=Int.ofNat_lt.1 (of_decide_eq_true c1)
  have hk':=hlt.2 c1'
  have hy:=hY k (chunkA n es k) (by simp [chunksA,hk'])
  refine AWF_skip ?_
  refine AWF_seq (AWF_block (AWF_seq ?_))
  refine AWF_drawG (.inl rfl) (fun _=>List.range (Hs k).length) (fun _=>[]) mixed rfl (by kernel_rfl) ?_
  refine qAs (qBk hT rfl rfl h2 rfl rfl rfl) rfl rfl ?_
  refine qAs (qBk hT rfl rfl h1 rfl rfl rfl) rfl rfl ?_
  refine wws ?_
  refine qAs (qAc (min2_ok (t2:=#[]) rfl rfl rfl)) rfl rfl ?_
  refine wws ?_
  have hmn:(if (((es.drop (k*n)).length:Nat):Int) < (n:Int) then (((es.drop (k*n)).length:Nat):Int) else (n:Int))=((min n (es.length-k*n):Nat):Int):=by
   rw [List.length_drop];split <;> omega
  have htk:(es.drop (k*n)).take (k*n+min n (es.length-k*n)-k*n)=(es.drop (k*n)).take n:=by
   rw [Nat.add_sub_cancel_left]
   rcases Nat.le_total n (es.length-k*n) with h | h
   ·rw [Nat.min_eq_left h]
   ·rw [Nat.min_eq_right h,List.take_of_length_le (by simp),List.take_of_length_le (by simp;omega)]
  refine AWF_subL (l:=[(0,.fn (.yield l) [] []),(1,.ptr i 0),(2,.ptr j 0),(4,.d (.int .i64 ((k*n:Nat):Int))),(5,.d (.int .i64 ((min n (es.length-k*n):Nat):Int)))]) (h':=Hs k) ⟨.refl _,.refl _,.refl _,.refl _,AV.le.int hmn,trivial⟩ (HLe.refl _) ?_
  refine AWF_seq (AWF_regionF (.inl rfl) ?_)
  have hadd:IntKind.i64.wrap (((k*n:Nat):Int)+((min n (es.length-k*n):Nat):Int))=((k*n+min n (es.length-k*n):Nat):Int):=by rw [qAd (by omega)];omega
  refine AWkF_pre (.inl rfl) (pre:=[_,_,_,_,_,_,_,_,_,_]) _ _ rfl ?_
  refine wws ?_
  refine qAe (qBk hT rfl rfl h1 rfl rfl rfl) rfl ?_
  refine wws ?_
  refine qAe (qAc (cut3_ok (l:=k*n) (r:=k*n+min n (es.length-k*n)) hT rfl rfl rfl rfl (by exact congrArg (fun z=>AV.d (.int .i64 z)) hadd) (by exact congrArg (fun z=>AV.d (.int .i64 z)) hadd) (by omega) rfl)) rfl ?_
  rw [htk]
  refine wws ?_
  refine AWkF_op (yield_op rfl rfl rfl hy) rfl ?_
  refine AWkF_all (.inl rfl) _ _ _ rfl ?_
  refine wws ?_
  refine AWF_condL rfl (fun c2=>?_) (fun c2=>?_)
  ·exact absurd c2 (by simp)
  refine AWF_skip ?_
  refine AWF_region (.inl rfl) rfl ?_
  refine wws ?_
  obtain ⟨h1',h2'⟩:=hok (k+1)
  refine qAe (qBk hT rfl rfl h2' rfl rfl rfl) rfl ?_
  refine wws ?_
  exact ⟨k+1,hk',by omega,⟨.refl _,.refl _,.refl _,AV.le.int (by rw [qAd (by omega),Nat.succ_mul];omega),trivial⟩,HLe.refl _⟩
 ·have c1':¬ k*n < es.length:=fun h=>(of_decide_eq_false c1) (Int.ofNat_lt.2 h)
  have hk':k=chunkN n es:=by
   have:¬ k < chunkN n es:=fun h=>c1' (hlt.1 h)
   omega
  subst hk'
  exact AWF_exit ⟨.inl rfl,rfl⟩
end Tdoc
/- slices.Chunk and datagroups.OpenZone. -/
set_option maxHeartbeats 8000000
set_option maxRecDepth 100000
set_option linter.unusedVariables false
set_option linter.unusedSimpArgs false
namespace Tdoc
open Go Go.Proofs
theorem Chunk_spec (es:List (List Dat)) (n:Nat) (hn:1≤n∧n≤1000000000):Spec Tryz.prog 89 [.d (.sl 1 es),.d (.int .i64 (n:Int))] [.room,.room]
  (fun r h'=>r=.fn (.func 150) [] [.ptr 0 0,.ptr 1 0]∧h'=[.row [.d (.sl 1 es)],.row [.d (.int .i64 (n:Int))]]):=by
 refine qAb hT Tryz.func89 rfl rfl rfl rfl ?_;intro E hE
 refine qAm (qAj ?_)
 refine qAe (qBb (i0:=0) rfl rfl rfl) rfl ?_
 refine qAe (qBb (i0:=1) rfl rfl rfl) rfl ?_
 refine ww ?_
 refine qAa rfl (fun c1=>?_) (fun c1=>?_)
 ·exact absurd c1 (by simp;omega)
 refine ww ?_
 exact wwr
def chunkB (n:Nat) (v:List UInt8) (k:Nat):List (List UInt8):=(List.range k).map fun j=>(v.drop (j*n)).take n
theorem chunkB_succ (n:Nat) (v:List UInt8) (k:Nat):strsD (chunkB n v (k+1))=strsD (chunkB n v k)++[[.str ((v.drop (k*n)).take n)]]:=by
 unfold strsD chunkB
 rw [List.range_succ,List.map_append,List.map_append];rfl
theorem chunkB_len (n:Nat) (v:List UInt8) (k:Nat):(strsD (chunkB n v k)).length=k:=by simp [strsD,chunkB]
def zoneP (b:List UInt8):Zon×Int :=
 if (openY b 1).2≠0 then (zon0,(openY b 1).2) else if (primL (openY b 1).1 24351).2≠0 then (zon0,(primL (openY b 1).1 24351).2) else zoneT (primL (openY b 1).1 24351).1
theorem zoneT_chunk (v:List UInt8):zoneT v=if v.length=90 then parseZ (chunkB 30 v 3) else if v.length=72 then parseZ (chunkB 36 v 2) else if v.length=88 then parseZ (chunkB 44 v 2) else (zon0,2):=by
 have h:∀ (a n:Nat),(v.drop a).take n=cutS v a (a+n):=fun a n=>by unfold cutS;rw [List.drop_take];congr 1;omega
 have e3:chunkB 30 v 3=[cutS v 0 30,cutS v 30 60,cutS v 60 90]:=by
  show [(v.drop 0).take 30,(v.drop 30).take 30,(v.drop 60).take 30]=_
  rw [h,h,h]
 have e2:chunkB 36 v 2=[cutS v 0 36,cutS v 36 72]:=by
  show [(v.drop 0).take 36,(v.drop 36).take 36]=_
  rw [h,h]
 have e1:chunkB 44 v 2=[cutS v 0 44,cutS v 44 88]:=by
  show [(v.drop 0).take 44,(v.drop 44).take 44]=_
  rw [h,h]
 unfold zoneT
 rw [e3,e2,e1]
theorem OpenZone_spec (b:List UInt8) (hb:b.length≤9223372036854775807):Spec Tryz.prog 38 [.d (.sl 1 (encB b))] []
  (fun r h'=>r=.tup [zAV (zoneP b).1,.d (.int .i64 (zoneP b).2)]∧h'=[]):=by
 have ho:=open_spec b 1 (by omega)
 unfold zoneP
 generalize openY b 1=q at ho
 obtain ⟨l,e⟩:=q
 simp only at ho ⊢
 have hpr:=primitive_spec l 24351
 generalize primL l 24351=pq at hpr
 obtain ⟨v,e2⟩:=pq
 simp only at hpr ⊢
 have hzt:=zoneT_chunk v
 generalize hfin:(if e≠0 then (zon0,e) else if e2≠0 then (zon0,e2) else zoneT v)=fin
 refine Spec_of_bodyX hT Tryz.func38 rfl rfl rfl rfl ?_
 intro E hE
 refine AWx_seq ?_
 refine ww ?_
 refine AWx_seq ?_
 refine ww ?_
 refine wwc ho ?_
 refine ww ?_
 refine AWx_seq ?_
 refine ww ?_
 refine qAa rfl (fun c1=>?_) (fun c1=>?_)
 ·rw [if_pos (by simpa using c1)] at hfin
  subst hfin
  refine ww ?_
  exact wwr
 rw [if_neg (by simpa using c1)] at hfin
 refine ww ?_
 refine AWx_seq ?_
 refine ww ?_
 refine wwc hpr ?_
 refine ww ?_
 refine AWx_seq ?_
 refine ww ?_
 refine qAa rfl (fun c2=>?_) (fun c2=>?_)
 ·rw [if_pos (by simpa using c2)] at hfin
  subst hfin
  refine ww ?_
  exact wwr
 rw [if_neg (by simpa using c2),hzt] at hfin
 refine ww ?_
 refine AWx_seq ?_
 refine ww ?_
 have hvl:(encB v).length=v.length:=qAg v
 refine AWx_seq_cut (ι:=Nat×Nat) (fun x=>[(2,.ptr 0 0),(6,.d (.sl 1 (encB v))),(7,.d (.int .i64 (x.1:Int)))]) (fun _=>[.row (zCells zon0)])
  (fun x=>(1≤x.1∧x.1≤1000)∧chunkN x.1 (encB v)=x.2∧(x.2≤3∧v.length≤90)∧parseZ (chunkB x.1 v x.2)=fin) ?_ ?_
 ·refine ww ?_
  refine qAa rfl (fun d1=>?_) (fun d1=>?_)
  ·have d1':v.length=90:=by rw [hvl] at d1;simp at d1;omega
   rw [if_pos d1'] at hfin
   refine ww ?_
   exact ⟨(30,3),⟨⟨by omega,by omega⟩,by unfold chunkN;rw [hvl,d1'];rfl,⟨by omega,by omega⟩,hfin⟩,⟨.refl _,.refl _,.refl _,trivial⟩,HLe.refl _⟩
  have d1':¬ v.length=90:=by rw [hvl] at d1;simp at d1;omega
  rw [if_neg d1'] at hfin
  refine ww ?_
  refine qAa rfl (fun d2=>?_) (fun d2=>?_)
  ·have d2':v.length=72:=by rw [hvl] at d2;simp at d2;omega
   rw [if_pos d2'] at hfin
   refine ww ?_
   exact ⟨(36,2),⟨⟨by omega,by omega⟩,by unfold chunkN;rw [hvl,d2'];rfl,⟨by omega,by omega⟩,hfin⟩,⟨.refl _,.refl _,.refl _,trivial⟩,HLe.refl _⟩
  have d2':¬ v.length=72:=by rw [hvl] at d2;simp at d2;omega
  rw [if_neg d2'] at hfin
  refine ww ?_
  refine qAa rfl (fun d3=>?_) (fun d3=>?_)
  ·have d3':v.length=88:=by rw [hvl] at d3;simp at d3;omega
   rw [if_pos d3'] at hfin
   refine ww ?_
   exact ⟨(44,2),⟨⟨by omega,by omega⟩,by unfold chunkN;rw [hvl,d3'];rfl,⟨by omega,by omega⟩,hfin⟩,⟨.refl _,.refl _,.refl _,trivial⟩,HLe.refl _⟩
  have d3':¬ v.length=88:=by rw [hvl] at d3;simp at d3;omega
  rw [if_neg d3'] at hfin
  subst hfin
  refine ww ?_
  exact wwr
 rintro ⟨n,kk⟩ ⟨hn,hkk,hk3,hpz⟩
 simp only at hn hkk hk3 hpz ⊢
 obtain ⟨hk3,hv90⟩:=hk3
 refine AWx_seq ?_
 refine ww ?_
 have hck:=Chunk_spec (encB v) n (by omega)
 have hsq:=chunk1_spec 2 3 n (encB v) (by omega) (by rw [hvl];omega)
 obtain ⟨Hs,hHs⟩:∃ Hs:Nat→List AObj,Hs=fun k=>[.row (zCells zon0),.row [.sl 1 (strsD (chunkB n v k)) (.right 4)],.row [.d (.sl 1 (encB v))],.row [.d (.int .i64 (n:Int))],.right 1 (strsD (chunkB n v k)).length]:=⟨_,rfl⟩
 have hxl:(chunksA n (encB v)).length=kk:=by simp [chunksA,hkk]
 refine AWx_seq2 (Qx:=fun e τ' h'=>e=.normal∧SubL τ' [(2,.ptr 0 0),(8,.ptr 1 0)]∧h'=Hs kk) (AWx_seq ?_) ?_ ?_
 ·refine qAq (qAq (qAq (AW_acquireH 1 0 4 1 rfl rfl rfl ?_)))
  refine ww ?_
  refine qAe (callS1v rfl rfl hck [2,3] (by decide) rfl rfl rfl rfl rfl rfl rfl) rfl ?_
  refine ww ?_
  refine AWx_subL (l:=[(39,.fn (.func 150) [] [.ptr 2 0,.ptr 3 0]),(2,.ptr 0 0),(8,.ptr 1 0)]) ⟨.refl _,.refl _,.refl _,trivial⟩ (HLe.refl _) ?_
  refine AWx_block (AWx_rangeB Hs rfl hsq (by rw [hHs];rfl) (fun k=>by rw [hHs];exact ⟨rfl,rfl⟩) rfl (fun k=>by rw [hHs];rfl) (fun k=>by rw [hHs];rfl)
   (fun x=>look ((9,x)::(40,x)::[(39,.fn (.func 150) [] [.ptr 2 0,.ptr 3 0]),(2,.ptr 0 0),(8,.ptr 1 0)])) ?_ ?_ ?_)
  ·rintro k x hx E' l
   have hx':x=chunkA n (encB v) k:=by
    have hlt:k < chunkN n (encB v):=by have:=(List.getElem?_eq_some_iff.1 hx).1;simpa [chunksA] using this
    simp [chunksA,hlt] at hx
    exact hx.symm
   subst hx'
   refine AWF_region (.inr ⟨l,rfl⟩) rfl ?_
   show AWk _ _ _ _ _ _ (look ((40,chunkA n (encB v) k)::[(39,.fn (.func 150) [] [.ptr 2 0,.ptr 3 0]),(2,.ptr 0 0),(8,.ptr 1 0)])) _
   refine wws ?_
   exact ⟨rfl,rfl,rfl⟩
  ·rintro k x hx E' l hE'
   have hx':x=.d (.sl 1 (encB ((v.drop (k*n)).take n))):=by
    have hlt:k < chunkN n (encB v):=by have:=(List.getElem?_eq_some_iff.1 hx).1;simpa [chunksA] using this
    simp [chunksA,hlt] at hx
    rw [← hx]
    unfold chunkA encB
    rw [List.map_take,List.map_drop]
   subst hx'
   have hk2:k < 3:=by have:=(List.getElem?_eq_some_iff.1 hx).1;omega
   have hcl:=chunkB_len n v k
   refine AWF_subL (l:=[(9,.d (.sl 1 (encB ((v.drop (k*n)).take n)))),(8,.ptr 1 0)]) ⟨.refl _,.refl _,trivial⟩ (HLe.refl _) ?_
   have hsu:=chunkB_succ n v k
   subst hHs
   refine AWF_block (AWF_region (.inr ⟨l,rfl⟩) rfl ?_)
   refine wws ?_
   refine qBn hT rfl rfl (qAv _) ?_
   rw [qBc]
   refine wws ?_
   refine qAe (qAk (i:=4) hT rfl rfl rfl rfl rfl rfl (by show ((strsD (chunkB n v k)).length+1)*(16+1)≤_;omega)) rfl ?_
   refine wws ?_
   exact ⟨rfl,[],⟨ObLe.refl _,⟨AV.le.slt hsu.symm,trivial⟩,ObLe.refl _,ObLe.refl _,⟨rfl,by rw [hsu]⟩,trivial⟩⟩
  ·exact ⟨rfl,⟨.refl _,.refl _,trivial⟩,by rw [hxl]⟩
 ·rintro E2 hE2 τ' h' ⟨_,hs,rfl⟩
  subst hHs
  refine AWx_subL (h':=[.row (zCells zon0),.row [.d (.sl 1 (strsD (chunkB n v kk)))],.dead,.dead,.dead]) hs ⟨ObLe.refl _,⟨AV.le.dat,trivial⟩,trivial,trivial,trivial,trivial⟩ ?_
  have hps:=ZParse_spec (chunkB n v kk) (by simp [chunkB];omega)
  rw [hpz] at hps
  refine AWx_of ?_
  refine ww ?_
  refine wwc hps ?_
  refine ww ?_
  exact wwr
 ·rintro e τ' h' he ⟨h1,_⟩
  exact absurd h1 he
end Tdoc
/- The reference's Trim, right, Split, Shape. -/
set_option maxHeartbeats 8000000
set_option maxRecDepth 100000
set_option linter.unusedVariables false
set_option linter.unusedSimpArgs false
namespace Tdoc
open Go Go.Proofs
theorem trimF_take {s:List UInt8} {n:Nat} (hn:n≤s.length) (h1:∀ (j:Nat) (c:UInt8),n≤j→s[j]?=some c→c=60) (h2:∀ c,0 < n→s[n-1]?=some c→c≠60):trimF s=s.take n:=Lib.trimRightB_take s 60 n hn h1 h2
theorem strAt_60 {s:List UInt8} {i:Nat} (h:i < s.length):(strAt s (i:Int) == 60)=decide (s[i]=60):=by
 rw [qBu h]
 exact bI_eq (c:=s[i]) (n:=60) (by omega)
theorem qBs (s:List UInt8) (hs:s.length≤1000000):Spec Tryz.prog 213 [.d (.str s)] [] (fun r h'=>r=.d (.str (trimF s))∧h'=[]):=by
 refine qAb hT Tryz.func213 rfl rfl rfl rfl ?_;intro E hE
 refine ww ?_
 refine qAn (ι:=Nat) (fun n=>[(0,.d (.str s)),(3,.d (.int .i64 (n:Int)))]) (fun _=>[]) (fun n=>n≤s.length∧∀ (j:Nat) (c:UInt8),n≤j→s[j]?=some c→c=60) (fun n=>n) s.length ⟨by omega,fun j c hj hc=>by rw [List.getElem?_eq_none hj] at hc;cases hc⟩ ⟨.refl _,.refl _,trivial⟩ (HLe.refl _) ?_
 rintro n ⟨hn,hg⟩
 have hwi:(n:Int) > 0→IntKind.i64.wrap ((n:Int)-1)=(n:Int)-1:=fun _=>qAd (by omega)
 refine ww ?_
 refine qAa rfl (fun c1=>?_) (fun c1=>?_)
 ·have h0:0 < n:=by
   rcases Nat.eq_zero_or_pos n with h | h
   ·subst h;simp at c1
   ·exact h
  have hw:IntKind.i64.wrap ((n:Int)-1)=((n-1:Nat):Int):=by rw [qAd (by omega)];omega
  rw [hw] at c1
  rw [strAt_60 (by omega)] at c1
  have hc:s[n-1]=60:=by simp at c1;exact c1.2
  refine ww ?_
  rw [hw]
  refine ⟨n-1,⟨by omega,fun j c hj hjc=>?_⟩,by omega,⟨.refl _,.refl _,trivial⟩,HLe.refl _⟩
  by_cases he:j=n-1
  ·subst he
   rw [List.getElem?_eq_getElem (by omega)] at hjc
   cases hjc;exact hc
  ·exact hg j c (by omega) hjc
 ·have htk:=trimF_take hn hg (fun c h0 hc=>by
   have hw:IntKind.i64.wrap ((n:Int)-1)=((n-1:Nat):Int):=by rw [qAd (by omega)];omega
   rw [hw,strAt_60 (by omega)] at c1
   rw [List.getElem?_eq_getElem (by omega)] at hc
   cases hc
   intro h60
   rw [h60] at c1
   simp at c1
   omega)
  rw [htk]
  have htn:((n:Int)).toNat=n:=by simp
  refine ww ?_
  exact wwr
theorem bI_beq (c d:UInt8):(bI c == bI d)=decide (c=d):=by
 by_cases h:c=d
 ·subst h;simp
 ·rw [decide_eq_false h]
  simp only [beq_eq_false_iff_ne,ne_eq]
  intro h'
  apply h
  unfold bI at h'
  exact UInt8.toNat_inj.1 (by omega)
def rightF (s:List UInt8) (c:UInt8):Bool:=validS s&&decide (digitS s=[c])
theorem right_spec (s:List UInt8) (c:UInt8) (hs:s.length≤1000000):Spec Tryz.prog 214 [.d (.str s),.d (.int .u8 (bI c))] [] (fun r h'=>r=.d (.bool (rightF s c))∧h'=[]):=by
 have hd:=Digit_spec s hs
 unfold rightF
 cases hv:validS s
 ·have hf:digitF s=([],12):=by unfold digitF;rw [if_neg (by rw [hv];simp)]
  rw [hf] at hd
  simp only at hd
  have hn:((12:Int) == 0)=false:=rfl
  refine qAb hT Tryz.func214 rfl rfl rfl rfl ?_;intro E hE
  refine ww ?_
  refine wwc hd ?_
  refine wwk hn ?_
  exact wwr
 ·rw [digitF_ok hv] at hd
  simp only at hd
  have hb:(strAt (digitS s) 0 == bI c)=decide (digitS s=[c]):=by
   unfold digitS
   generalize UInt8.ofNat _=d
   rw [show strAt [d] 0=bI d from rfl,bI_beq]
   simp
  have hlen:(digitS s).length=1:=rfl
  generalize digitS s=ds at *
  rw [← hb]
  refine qAb hT Tryz.func214 rfl rfl rfl rfl ?_;intro E hE
  refine ww ?_
  refine wwc hd ?_
  refine ww ?_
  exact wwr
theorem Shape_other (ls:List (List UInt8)) (h2:ls.length≠2) (h3:ls.length≠3):Spec Tryz.prog 212 [.d (.sl 1 (strsD ls))] [] (fun r h'=>r=.d (.int .i64 0)∧h'=[]):=by
 have hsl:(strsD ls).length=ls.length:=by simp [strsD]
 have n3:(((strsD ls).length:Int) == 3)=false:=by rw [hsl];simp;omega
 have n2:(((strsD ls).length:Int) == 2)=false:=by rw [hsl];simp;omega
 refine qAb hT Tryz.func212 rfl rfl rfl rfl ?_;intro E hE
 refine wwk n3 ?_
 refine qAa rfl (fun c1=>?_) (fun c1=>?_)
 ·rw [n3] at c1;exact absurd c1 (by simp)
 refine wwk n2 ?_
 refine qAa rfl (fun c2=>?_) (fun c2=>?_)
 ·rw [n2] at c2;exact absurd c2 (by simp)
 refine wwk n2 ?_
 refine qAa rfl (fun c3=>?_) (fun c3=>?_)
 ·rw [n2] at c3;exact absurd c3 (by simp)
 refine ww ?_
 exact wwr
theorem Shape_three (a b c:List UInt8):Spec Tryz.prog 212 [.d (.sl 1 (strsD [a,b,c]))] [] (fun r h'=>r=.d (.int .i64 (shapeF [a,b,c]))∧h'=[]):=by
 have n2:(((strsD [a,b,c]).length:Int) == 2)=false:=rfl
 have y3:(((strsD [a,b,c]).length:Int) == 3)=true:=rfl
 have h0:(strsD [a,b,c])[((0:Int)).toNat]?=some [.str a]:=rfl
 have h1:(strsD [a,b,c])[((1:Int)).toNat]?=some [.str b]:=rfl
 have h2:(strsD [a,b,c])[((2:Int)).toNat]?=some [.str c]:=rfl
 have hl:(strsD [a,b,c]).length=3:=rfl
 unfold shapeF
 simp only
 generalize strsD [a,b,c]=L at *
 refine qAb hT Tryz.func212 rfl rfl rfl rfl ?_;intro E hE
 refine ww ?_
 refine wwgi h0 ?_
 refine ww ?_
 refine wwgi h1 ?_
 refine ww ?_
 refine wwgi h2 ?_
 refine ww ?_
 refine qAa rfl (fun c1=>?_) (fun c1=>?_)
 ·rw [y3] at c1
  rw [if_pos (by simp at c1;omega)]
  refine ww ?_
  exact wwr
 rw [y3] at c1
 rw [if_neg (by simp at c1;omega)]
 refine wwk n2 ?_
 refine qAa rfl (fun c2=>?_) (fun c2=>?_)
 ·rw [n2] at c2;exact absurd c2 (by simp)
 refine wwk n2 ?_
 refine qAa rfl (fun c3=>?_) (fun c3=>?_)
 ·rw [n2] at c3;exact absurd c3 (by simp)
 refine ww ?_
 exact wwr
theorem Shape_two (a b:List UInt8):Spec Tryz.prog 212 [.d (.sl 1 (strsD [a,b]))] [] (fun r h'=>r=.d (.int .i64 (shapeF [a,b]))∧h'=[]):=by
 have n3:(((strsD [a,b]).length:Int) == 3)=false:=rfl
 have y2:(((strsD [a,b]).length:Int) == 2)=true:=rfl
 have h0:(strsD [a,b])[((0:Int)).toNat]?=some [.str a]:=rfl
 have h1:(strsD [a,b])[((1:Int)).toNat]?=some [.str b]:=rfl
 have hl:(strsD [a,b]).length=2:=rfl
 unfold shapeF
 simp only
 generalize strsD [a,b]=L at *
 refine qAb hT Tryz.func212 rfl rfl rfl rfl ?_;intro E hE
 refine wwk n3 ?_
 refine qAa rfl (fun c1=>?_) (fun c1=>?_)
 ·rw [n3] at c1;exact absurd c1 (by simp)
 refine ww ?_
 refine wwgi h0 ?_
 refine ww ?_
 refine wwgi h1 ?_
 refine ww ?_
 refine qAa rfl (fun c2=>?_) (fun c2=>?_)
 ·rw [y2] at c2
  rw [if_pos (by simp at c2;omega)]
  refine ww ?_
  exact wwr
 rw [y2] at c2
 rw [if_neg (by simp at c2;omega)]
 refine ww ?_
 refine wwgi h0 ?_
 refine ww ?_
 refine wwgi h1 ?_
 refine ww ?_
 refine qAa rfl (fun c3=>?_) (fun c3=>?_)
 ·rw [y2] at c3
  rw [if_pos (by simp at c3;omega)]
  refine ww ?_
  exact wwr
 rw [y2] at c3
 rw [if_neg (by simp at c3;omega)]
 refine ww ?_
 exact wwr
theorem Shape_spec (ls:List (List UInt8)):Spec Tryz.prog 212 [.d (.sl 1 (strsD ls))] [] (fun r h'=>r=.d (.int .i64 (shapeF ls))∧h'=[]):=by
 rcases ls with _ | ⟨a,_ | ⟨b,_ | ⟨c,_ | ⟨d,l⟩⟩⟩⟩
 ·exact Shape_other [] (by simp) (by simp)
 ·exact Shape_other [a] (by simp) (by simp)
 ·exact Shape_two a b
 ·exact Shape_three a b c
 ·exact Shape_other (a::b::c::d::l) (by simp) (by simp)
end Tdoc
/- The reference's Split. -/
set_option maxHeartbeats 8000000
set_option maxRecDepth 100000
set_option linter.unusedVariables false
set_option linter.unusedSimpArgs false
namespace Tdoc
open Go Go.Proofs
def fullR (s:List UInt8):Bool:=decide ((splitR s).2.2=0)&&(strAt s ((s.length:Int)-1) != 60)
def atI (a:Bool):Int:=if a=true then 1 else 0
structure SpI where
 i:Nat
 r:Nat
 a:Bool
 p0:List UInt8
 p1:List UInt8
structure SpW (tr:List UInt8) (x:SpI):Prop where
 hi:x.i≤tr.length
 h0:x.p0=[]→x.i=x.r
 h1:x.p0≠[]→x.r < x.i
 ha:x.a=true→x.p0≠[]
 l0:x.p0.length≤2*x.i
 l1:x.p1.length≤2*x.i
theorem SplitRef_spec (s:List UInt8) (hs:s.length≤1000):Spec Tryz.prog 215 [.d (.str s)] [] (fun r h'=>r=.tup [.d (.str (splitR s).1),.d (.str (splitR s).2.1),.d (.bool (fullR s)),.d (.int .i64 (splitR s).2.2)]∧h'=[]):=by
 have ht:=qBs s (by omega)
 have hlt:(trimF s).length≤s.length:=qBw s
 generalize hfu:fullR s=fu
 unfold fullR at hfu
 generalize hr:splitR s=res at *
 unfold splitR at hr
 refine qAb hT Tryz.func215 rfl rfl rfl rfl ?_;intro E hE
 refine ww ?_
 refine qAa rfl (fun c1=>?_) (fun c1=>?_)
 ·rw [if_pos (by simp at c1;omega)] at hr
  subst hr
  subst hfu
  refine ww ?_
  exact wwr
 rw [if_neg (by simp at c1;omega)] at hr
 have hl1:1≤s.length:=by simp at c1;omega
 refine ww ?_
 refine qAn (ι:=Nat) (fun i=>[(0,.d (.str s)),(6,.d (.int .i64 (i:Int)))]) (fun _=>[]) (fun i=>i≤s.length∧isFld (s.drop i)=isFld s) (fun i=>s.length-i) 0 ⟨by omega,by simp⟩ ⟨.refl _,.refl _,trivial⟩ (HLe.refl _) ?_
 rintro i ⟨hi,hg⟩
 have hwr:IntKind.i64.wrap ((i:Int)+1)=((i+1:Nat):Int):=by rw [qAd (by omega)];simp
 refine ww ?_
 refine qAa rfl (fun h1=>?_) (fun h1=>?_)
 ·have h1':i < s.length:=by simpa using h1
  have hsa:=qBu h1'
  rw [qCl h1',isFld,List.all_cons] at hg
  have hup:=isUp_dec s[i]
  have hbe:=bI_eq (c:=s[i]) (n:=60) (by omega)
  generalize s[i]=c at hsa hg hup hbe
  refine ww ?_
  refine qAa rfl (fun h2=>?_) (fun h2=>?_)
  ·have h2':(decide (c=60)||isUp c)=false:=by
    rw [hsa] at h2
    have hbe':(bI c != 60)=!decide (c=60):=by unfold bne;exact congrArg _ hbe
    rw [hbe'] at h2
    rw [hup]
    simp at h2 ⊢
    exact ⟨h2.1,by omega⟩
   rw [h2',Bool.false_and] at hg
   rw [← hg,if_pos rfl] at hr
   subst hr
   subst hfu
   refine ww ?_
   exact wwr
  ·have h2':(decide (c=60)||isUp c)=true:=by
    rw [hsa] at h2
    have hbe':(bI c != 60)=!decide (c=60):=by unfold bne;exact congrArg _ hbe
    rw [hbe'] at h2
    rw [hup]
    by_cases hc:c=60
    ·simp [hc]
    ·rw [decide_eq_false hc] at h2
     simp at h2 ⊢
     omega
   rw [h2',Bool.true_and] at hg
   refine ww ?_
   exact ⟨i+1,⟨h1',hg⟩,by omega,⟨.refl _,.int hwr,trivial⟩,HLe.refl _⟩
 have h1':i=s.length:=by simp at h1;omega
 subst h1'
 rw [List.drop_length] at hg
 rw [← hg,if_neg (by simp [isFld])] at hr
 generalize trimF s=tr at *
 refine ww ?_
 refine wwc ht ?_
 refine ww ?_
 refine qBg (ι:=SpI) (fun x=>[(0,.d (.str s)),(7,.d (.str tr)),(8,.ptr 0 0),(9,.d (.int .i64 (atI x.a))),(10,.d (.int .i64 (x.r:Int))),(11,.d (.int .i64 (x.i:Int)))]) (fun x=>[.row [.d (.str x.p0),.d (.str x.p1)]])
  (fun x=>SpW tr x∧splL x.r x.a x.p0 x.p1 (tr.drop x.i)=splL 0 false [] [] tr) (fun x=>tr.length-x.i) ⟨0,0,false,[],[]⟩ ⟨⟨by simp,by simp,by simp,by simp,by simp,by simp⟩,by simp⟩ ⟨.refl _,.refl _,.refl _,.refl _,.refl _,.refl _,trivial⟩ (HLe.refl _) ?_
 rintro ⟨i,r,a,p0,p1⟩ ⟨⟨w1,w2,w3,w4,w5,w6⟩,hg⟩
 simp only at w1 w2 w3 w4 w5 w6 hg ⊢
 have hri:r≤i:=by
  by_cases hp:p0=[]
  ·have:=w2 hp;omega
  ·have:=w3 hp;omega
 have hwr:IntKind.i64.wrap ((i:Int)+1)=((i+1:Nat):Int):=by rw [qAd (by omega)];simp
 have hwrr:IntKind.i64.wrap ((r:Int)+1)=((r+1:Nat):Int):=by rw [qAd (by omega)];simp
 refine ww ?_
 refine qAa rfl (fun k1=>?_) (fun k1=>?_)
 ·have k1':i < tr.length:=by simpa using k1
  have hsa:=strAt_60 k1'
  rw [qCl k1',splL] at hg
  refine ww ?_
  refine qAa rfl (fun k2=>?_) (fun k2=>?_)
  ·have k2':tr[i]=60:=by rw [hsa] at k2;simpa using k2
   rw [if_pos k2'] at hg
   refine ww ?_
   exact ⟨⟨i+1,r+1,a,p0,p1⟩,[],⟨⟨by simp only;omega,fun h=>by have:=w2 h;simp only;omega,fun h=>by have:=w3 h;simp only;omega,w4,by simp only;omega,by simp only;omega⟩,hg⟩,by simp only;omega,⟨.refl _,.refl _,.refl _,.refl _,.int hwrr,.int hwr,trivial⟩,HLe.refl _,Env.below_mono hE (by simp),rfl,rfl⟩
  have k2':¬ tr[i]=60:=by rw [hsa] at k2;simpa using k2
  rw [if_neg k2'] at hg
  refine ww ?_
  have hpi:p0=[]↔i=r:=⟨w2,fun h=>by
   by_cases hp:p0=[]
   ·exact hp
   ·have:=w3 hp;omega⟩
  have hat:(atI a=1)↔a=true:=by unfold atI;cases a <;> simp
  refine qAa rfl (fun k3=>?_) (fun k3=>?_)
  ·have k3':r > 2∨(r > 0∧p0=[])∨(r=2∧a=true):=by
    rw [hpi,← hat]
    simp at k3
    omega
   rw [if_pos k3'] at hg
   rw [← hg] at hr
   simp only at hr
   subst hr
   subst hfu
   refine ww ?_
   exact wwr
  have k3':¬ (r > 2∨(r > 0∧p0=[])∨(r=2∧a=true)):=by
   rw [hpi,← hat]
   simp at k3
   omega
  rw [if_neg k3'] at hg
  have hsl:cutL tr (i:Int) (((i+1:Nat)):Int)=[tr[i]]:=by
   rw [qAu];unfold cutS
   rw [List.take_add_one,List.getElem?_eq_getElem k1']
   rw [List.drop_append_of_le_length (by simp;omega)]
   simp
  generalize tr[i]=c at *
  have hcl:[c].length=1:=rfl
  have hp0l:p0.length≤2000:=by omega
  have hp1l:p1.length≤2000:=by omega
  have hp0l:p0.length≤2000:=by omega
  have hp1l:p1.length≤2000:=by omega
  refine wwn ?_
  refine qAa rfl (fun k4=>?_) (fun k4=>?_)
  ·have k4':r=2:=by simp at k4;omega
   subst k4'
   rw [if_pos rfl] at hg
   have hne:p0≠[]:=fun h=>k3' (.inr (.inl ⟨by omega,h⟩))
   refine wwn ?_
   refine qAz (fun i=>bif Nat.beq i 2||Nat.beq i 10 then [0] else []) (fun i=>bif Nat.beq i 10 then [0] else []) mixed (by kernel_rfl) ?_
   refine wwg ?_
   refine qBd (os:=[]) (fun k hk1 hk2=>qAc (qAl hT rfl rfl rfl rfl (by decide))) rfl ?_
   refine wwg ?_
   rw [hwr,hsl]
   refine wwg ?_
   refine qBd (os:=[]) (fun k hk1 hk2=>qAc (qAl hT rfl rfl rfl rfl (by decide))) rfl ?_
   refine wwg ?_
   refine wwn ?_
   exact ⟨⟨i+1,0,true,p0,p1++[c]⟩,[],⟨⟨by simp only;omega,fun h=>absurd h hne,fun _=>Nat.succ_pos i,fun _=>hne,by simp [List.length_append];omega,by simp [List.length_append];omega⟩,hg⟩,by simp only;omega,⟨.refl _,.refl _,.refl _,.refl _,.refl _,.int hwr,trivial⟩,HLe.refl _,Env.below_mono hE (by simp),rfl,rfl⟩
  have k4':¬ r=2:=by simp at k4;omega
  rw [if_neg k4'] at hg
  refine wwn ?_
  refine qAa rfl (fun k5=>?_) (fun k5=>?_)
  ·have k5':r=1:=by simp at k5;omega
   subst k5'
   have hne:p0≠[]:=fun h=>k3' (.inr (.inl ⟨by omega,h⟩))
   cases a
   ·rw [if_neg (by simp),if_pos rfl] at hg
    have hl2:(p0++[32]).length≤2001:=by simp;omega
    refine wwn ?_
    refine qAe (qAc (qAl hT rfl rfl rfl rfl (by decide))) rfl ?_
    refine wwn ?_
    refine qAe (qAc (qAl hT rfl rfl rfl rfl (by decide))) rfl ?_
    refine wwn ?_
    refine qAz (fun i=>bif Nat.beq i 2||Nat.beq i 10 then [0] else []) (fun i=>bif Nat.beq i 10 then [0] else []) mixed (by kernel_rfl) ?_
    refine wwg ?_
    refine qBd (os:=[]) (fun k hk1 hk2=>qAc (qAl hT rfl rfl rfl rfl (by decide))) rfl ?_
    refine wwg ?_
    rw [hwr,hsl]
    refine wwg ?_
    refine qBd (os:=[]) (fun k hk1 hk2=>qAc (qAl hT rfl rfl rfl rfl (by decide))) rfl ?_
    refine wwg ?_
    refine wwn ?_
    exact ⟨⟨i+1,0,false,p0++[32]++[c],p1⟩,[],⟨⟨by simp only;omega,fun h=>absurd h (by simp),fun _=>Nat.succ_pos i,fun h=>absurd h (by simp),by simp [List.length_append];omega,by simp [List.length_append];omega⟩,hg⟩,by simp only;omega,⟨.refl _,.refl _,.refl _,.refl _,.refl _,.int hwr,trivial⟩,HLe.refl _,Env.below_mono hE (by simp),rfl,rfl⟩
   ·rw [if_pos rfl,if_pos rfl] at hg
    have hl2:(p1++[32]).length≤2001:=by simp;omega
    refine wwn ?_
    refine qAe (qAc (qAl hT rfl rfl rfl rfl (by decide))) rfl ?_
    refine wwn ?_
    refine qAe (qAc (qAl hT rfl rfl rfl rfl (by decide))) rfl ?_
    refine wwn ?_
    refine qAz (fun i=>bif Nat.beq i 2||Nat.beq i 10 then [0] else []) (fun i=>bif Nat.beq i 10 then [0] else []) mixed (by kernel_rfl) ?_
    refine wwg ?_
    refine qBd (os:=[]) (fun k hk1 hk2=>qAc (qAl hT rfl rfl rfl rfl (by decide))) rfl ?_
    refine wwg ?_
    rw [hwr,hsl]
    refine wwg ?_
    refine qBd (os:=[]) (fun k hk1 hk2=>qAc (qAl hT rfl rfl rfl rfl (by decide))) rfl ?_
    refine wwg ?_
    refine wwn ?_
    exact ⟨⟨i+1,0,true,p0,p1++[32]++[c]⟩,[],⟨⟨by simp only;omega,fun h=>absurd h hne,fun _=>Nat.succ_pos i,fun _=>hne,by simp [List.length_append];omega,by simp [List.length_append];omega⟩,hg⟩,by simp only;omega,⟨.refl _,.refl _,.refl _,.refl _,.refl _,.int hwr,trivial⟩,HLe.refl _,Env.below_mono hE (by simp),rfl,rfl⟩
  have k5':r=0:=by simp at k5;omega
  subst k5'
  simp only [show ¬ ((0:Nat)=1) by omega,if_false,List.append_nil] at hg
  cases a
  ·rw [if_neg (by simp)] at hg
   refine wwn ?_
   refine qAz (fun i=>bif Nat.beq i 2||Nat.beq i 10 then [0] else []) (fun i=>bif Nat.beq i 10 then [0] else []) mixed (by kernel_rfl) ?_
   refine wwg ?_
   refine qBd (os:=[]) (fun k hk1 hk2=>qAc (qAl hT rfl rfl rfl rfl (by decide))) rfl ?_
   refine wwg ?_
   rw [hwr,hsl]
   refine wwg ?_
   refine qBd (os:=[]) (fun k hk1 hk2=>qAc (qAl hT rfl rfl rfl rfl (by decide))) rfl ?_
   refine wwg ?_
   refine wwn ?_
   exact ⟨⟨i+1,0,false,p0++[c],p1⟩,[],⟨⟨by simp only;omega,fun h=>absurd h (by simp),fun _=>Nat.succ_pos i,fun h=>absurd h (by simp),by simp [List.length_append];omega,by simp [List.length_append];omega⟩,hg⟩,by simp only;omega,⟨.refl _,.refl _,.refl _,.refl _,.refl _,.int hwr,trivial⟩,HLe.refl _,Env.below_mono hE (by simp),rfl,rfl⟩
  ·rw [if_pos rfl] at hg
   have hne:p0≠[]:=w4 rfl
   refine wwn ?_
   refine qAz (fun i=>bif Nat.beq i 2||Nat.beq i 10 then [0] else []) (fun i=>bif Nat.beq i 10 then [0] else []) mixed (by kernel_rfl) ?_
   refine wwg ?_
   refine qBd (os:=[]) (fun k hk1 hk2=>qAc (qAl hT rfl rfl rfl rfl (by decide))) rfl ?_
   refine wwg ?_
   rw [hwr,hsl]
   refine wwg ?_
   refine qBd (os:=[]) (fun k hk1 hk2=>qAc (qAl hT rfl rfl rfl rfl (by decide))) rfl ?_
   refine wwg ?_
   refine wwn ?_
   exact ⟨⟨i+1,0,true,p0,p1++[c]⟩,[],⟨⟨by simp only;omega,fun h=>absurd h hne,fun _=>Nat.succ_pos i,fun _=>hne,by simp [List.length_append];omega,by simp [List.length_append];omega⟩,hg⟩,by simp only;omega,⟨.refl _,.refl _,.refl _,.refl _,.refl _,.int hwr,trivial⟩,HLe.refl _,Env.below_mono hE (by simp),rfl,rfl⟩
 have k1':i=tr.length:=by simp at k1;omega
 subst k1'
 rw [List.drop_length,splL] at hg
 rw [← hg] at hr
 simp only at hr
 refine wwn ?_
 refine qAe (qAc (qAl hT rfl rfl rfl rfl (by decide))) rfl ?_
 refine ww ?_
 refine qAa rfl (fun k6=>?_) (fun k6=>?_)
 ·rw [if_pos (by simpa using k6)] at hr
  subst hr
  subst hfu
  refine ww ?_
  exact wwr
 rw [if_neg (by simpa using k6)] at hr
 subst hr
 simp only [decide_true,Bool.true_and] at hfu
 have hw1:IntKind.i64.wrap ((s.length:Int)-1)=(s.length:Int)-1:=qAd (by omega)
 refine ww ?_
 refine qAs (qAc (qAl hT rfl rfl rfl rfl (by decide))) rfl rfl ?_
 refine ww ?_
 refine qAs (qAc (qAl hT rfl rfl rfl rfl (by decide))) rfl rfl ?_
 refine ww ?_
 subst hfu
 rw [hw1]
 exact rq ⟨rfl,rfl⟩ rfl (.refl _)
end Tdoc
/- ref11.Parse. -/
set_option maxHeartbeats 8000000
set_option maxRecDepth 100000
set_option linter.unusedVariables false
set_option linter.unusedSimpArgs false
namespace Tdoc
open Go Go.Proofs
theorem cutS_cutS (s:List UInt8) (a b c d:Nat):cutS (cutS s a b) c d=cutS s (a+c) (min (a+d) b):=by
 unfold cutS
 rw [List.take_drop,List.drop_drop,List.take_take]
theorem cutS_at (s:List UInt8) (a b i:Nat) (h:a+i < b):(cutS s a b).getD i 0=s.getD (a+i) 0:=by
 unfold cutS
 rw [List.getD_eq_getElem?_getD,List.getD_eq_getElem?_getD,List.getElem?_drop,List.getElem?_take,if_pos h]
theorem cutS_one (s:List UInt8) (i:Nat) (h:i < s.length):cutS s i (i+1)=[s.getD i 0]:=by
 unfold cutS
 rw [List.take_add_one,List.getElem?_eq_getElem h,List.drop_append_of_le_length (by simp;omega),List.getD_eq_getElem?_getD,List.getElem?_eq_getElem h]
 simp
theorem take_cutS (s:List UInt8) (n:Nat):s.take n=cutS s 0 n:=rfl
theorem right_at (s t:List UInt8) (i:Nat) (hi:i < t.length) (hs:s.length≤1000000):Spec Tryz.prog 214 [.d (.str s),.d (.int .u8 (strAt t (i:Int)))] [] (fun r h'=>r=.d (.bool (rightF s (t.getD i 0)))∧h'=[]):=by
 rw [qBu hi]
 have:=right_spec s t[i] hs
 rw [List.getD_eq_getElem?_getD,List.getElem?_eq_getElem hi]
 exact this
theorem dg_or (c0:UInt8) (d:List UInt8):decide ([c0]=[60]∨[c0]=d)=(([c0] == [60])||decide (d=[c0])):=by
 by_cases g1:d=[c0]
 ·subst g1;simp
 ·have g1':¬ [c0]=d:=fun h=>g1 h.symm
  by_cases g2:c0=60 <;> simp [g1,g1',g2]
theorem od_or (f:Int) (e:UInt8) (od d t:List UInt8) (h:f=3→[e]=od):decide (f≠3∨od=d∨(t=[]∧od=[60]))=!((f == 3)&&!decide (d=[e])&&!((t == [])&&decide (e=60))):=by
 by_cases h3:f=3
 ·subst h3
  have h':=h rfl
  subst h'
  by_cases g1:d=[e]
  ·subst g1;simp
  ·have g1':¬ [e]=d:=fun h=>g1 h.symm
   have ht:(t == [])=decide (t=[]):=by cases t <;> simp
   rw [ht]
   by_cases g3:e=60
   ·subst g3
    by_cases g2:t=[] <;> simp [g1,g1',g2]
   ·by_cases g2:t=[] <;> simp [g1,g1',g2,g3]
 ·have:(f == 3)=false:=by simpa using h3
  rw [this];simp [h3]
theorem splitR_len (s:List UInt8):(splitR s).1.length≤s.length∧(splitR s).2.1.length≤s.length:=by rw [← split_agree];exact splitP_len s
theorem numF_len (f:Int) (x:Fl) (hn:x.num.length≤44) (ho:x.opt.length≤44):(numF f x).1.length≤88∧(numF f x).2.1.length≤44:=by
 have h1:=qBw x.num
 have h2:=qBw x.opt
 have h3:=qBw (x.opt.drop (lenTo x.opt+1))
 simp only [List.length_drop] at h3
 unfold numF
 split
 ·simp only;omega
 split
 ·simp
 split
 ·simp
 ·simp only [List.length_append,List.length_take];omega
theorem cutS_le (s:List UInt8) (a b:Nat):(cutS s a b).length≤s.length:=by unfold cutS;simp;omega
structure TailW (f:Int) (b days:List UInt8) (x:Fl):Prop where
 hf:f=1∨f=2∨f=3
 lb:30≤b.length∧b.length≤44
 lb3:f=3→b.length=44
 ld:days.length=15
 bir:days.take 6=x.bir
 sex:cutS days 7 8=x.sex
 exp:cutS days 8 14=x.exp
 bd:[days.getD 6 0]=x.bd
 ed:[days.getD 14 0]=x.ed
 od:f=3→[b.getD 42 0]=x.od
 comp:[b.getD (b.length-1) 0]=x.comp
 dg:x.dg.length=1
 ln:x.num.length≤44
 lo:x.opt.length≤44
 la:x.all.length≤200
 lm:x.names.length≤44
 lk:x.kind.length≤100∧x.state.length≤100∧x.nat.length≤100∧x.sec.length≤100∧x.sex.length≤100
 vn:validS x.num=true
 vb:validS x.bir=true
 ve:validS x.exp=true
 vo:validS x.opt=true
 va:validS x.all=true
theorem ParseRef_walk (ls:List (List UInt8)) (hl:ls.length≤1000) (a b:List UInt8) (ha:(strsD ls)[((0:Int)).toNat]?=some [.str a]) (hb:(strsD ls)[((1:Int)).toNat]?=some [.str b]) (hln:∀ k,(ls.getD k []).length≤1000) (f:Int) (hsh0:shapeF ls=f) (hf0:f≠0)
  (hla:30≤a.length) :
  Spec Tryz.prog 144 [.d (.sl 1 (strsD ls))] [] (fun r h'=>r=.tup [zAV (parseZ ls).1,.d (.int .i64 (parseZ ls).2)]∧h'=[]):=by
 have hsh:=Shape_spec ls
 have hsl:(strsD ls).length=ls.length:=by simp [strsD]
 generalize hfin:parseZ ls=fin
 unfold parseZ at hfin
 rw [hsh0,if_neg hf0] at hfin
 rw [hsh0] at hsh
 refine qAb hT Tryz.func144 rfl rfl rfl rfl ?_;intro E hE
 refine ww ?_
 refine wwc hsh ?_
 refine ww ?_
 refine qAa rfl (fun c1=>?_) (fun c1=>?_)
 ·exact absurd (by simpa using c1) hf0
 refine ww ?_
 refine qAn (ι:=Nat) (fun i=>[(0,.d (.sl 1 (strsD ls))),(2,.ptr 0 0),(4,.d (.int .i64 f)),(5,.d (.int .i64 (i:Int)))]) (fun _=>[.row (zCells zon0)]) (fun i=>i≤ls.length∧(ls.drop i).all validS=ls.all validS) (fun i=>ls.length-i) 0 ⟨by omega,by simp⟩ ⟨.refl _,.refl _,.refl _,.refl _,trivial⟩ (HLe.refl _) ?_
 rintro k ⟨hk,hg⟩
 have hwr:IntKind.i64.wrap ((k:Int)+1)=((k+1:Nat):Int):=by rw [qAd (by omega)];simp
 refine ww ?_
 refine qAa rfl (fun c2=>?_) (fun c2=>?_)
 ·have hk':k < ls.length:=by rw [hsl] at c2;simpa using c2
  have hat:=strsD_at hk'
  have hvl:=ValidS_spec (ls.getD k []) (by have:=hln k;omega)
  rw [qCl hk',List.all_cons] at hg
  have hgd:ls.getD k []=ls[k]:=by rw [List.getD_eq_getElem?_getD,List.getElem?_eq_getElem hk'];rfl
  rw [← hgd] at hg
  generalize ls.getD k []=s at hat hvl hg
  refine ww ?_
  refine qAe (qAc (qAi hT rfl rfl rfl rfl (by omega) (i:=(k:Int)) hat)) rfl ?_
  refine ww ?_
  refine wwc hvl ?_
  refine ww ?_
  refine qAa rfl (fun c3=>?_) (fun c3=>?_)
  ·have hv:validS s=false:=by simpa using c3
   rw [hv,Bool.false_and] at hg
   rw [← hg,if_pos rfl] at hfin
   subst hfin
   refine ww ?_
   exact wwr
  have hv:validS s=true:=by simpa using c3
  rw [hv,Bool.true_and] at hg
  refine ww ?_
  exact ⟨k+1,⟨hk',hg⟩,by omega,⟨.refl _,.refl _,.refl _,.int hwr,trivial⟩,HLe.refl _⟩
 have hk':k=ls.length:=by rw [hsl] at c2;simp at c2;omega
 subst hk'
 rw [List.drop_length] at hg
 rw [← hg,if_neg (by simp)] at hfin
 refine ww ?_
 refine qAs (qAc (qAi hT rfl rfl rfl rfl (by decide) ha)) rfl rfl ?_
 refine ww ?_
 refine qAs (qAc (qAi hT rfl rfl rfl rfl (by decide) hb)) rfl rfl ?_
 refine wwn ?_
 have tk:=qBs (a.take 2) (by simp;omega)
 have ts:=qBs (cutL a 2 5) (by rw [qBe a 2 5 (by omega) (by omega)];decide)
 refine qAq ?_
 refine qAz (fun i=>bif Nat.beq i 8||Nat.beq i 9 then [1] else []) (fun i=>bif Nat.beq i 8||Nat.beq i 9 then [1] else []) mixed (by kernel_rfl) ?_
 refine wwg ?_
 refine wwdc tk ?_
 refine wwg ?_
 refine wwdc ts ?_
 refine wwg ?_
 refine qBd (v:=.ptr 1 0) (os:=[.row (zCells zon0)]) (fun hx hk1 hk2=>qDn (i0:=1) (t:=39) (i:=⟨.struct [(0,1,false),(1,1,false),(2,1,false),(3,1,false),(4,1,false),(5,1,false),(6,1,false),(7,1,false),(8,1,false),(9,1,false),(10,1,false),(11,1,false)],12,184,zCells zon0⟩) hT rfl rfl (hk2 1 List.mem_cons_self)) rfl ?_
 refine wwg ?_
 refine qAm (qAj ?_)
 refine wws ?_
 have hlsc:True:=trivial
 refine AW_subL (l:=[(0,.d (.sl 1 (strsD ls))),(2,.ptr 0 0),(4,.d (.int .i64 f)),(6,.d (.str a)),(7,.d (.str b)),(8,.ptr 1 0),(9,.d (.str [])),(10,.d (.str [])),(11,.d (.str [])),(12,.d (.str [])),(13,.d (.str [])),(14,.d (.str []))])
  (h':=[.row (zCells zon0),.row (zCells ⟨f,trimF (cutS a 0 2),trimF (cutS a 2 5),[],[],[],[],[],[],[],[],[]⟩)]) ⟨.refl _,.refl _,.refl _,.refl _,.refl _,.refl _,.refl _,.refl _,.refl _,.refl _,.refl _,.refl _,trivial⟩
  ⟨ObLe.refl _,⟨.refl _,.refl _,.str (congrArg trimF (qAu a 2 5)),.refl _,.refl _,.refl _,.refl _,.refl _,.refl _,.refl _,.refl _,.refl _,trivial⟩,trivial⟩ ?_
 refine qAr (ι:=List UInt8×Fl) (fun y=>[(2,.ptr 0 0),(4,.d (.int .i64 f)),(7,.d (.str b)),(8,.ptr 1 0),(9,.d (.str y.2.num)),(10,.d (.str y.2.dg)),(11,.d (.str y.1)),(12,.d (.str y.2.opt)),(13,.d (.str y.2.all)),(14,.d (.str y.2.names))])
  (fun y=>[.row (zCells zon0),.row (zCells ⟨f,trimF y.2.kind,trimF y.2.state,[],[],[],trimF y.2.nat,[],[],[],[],trimF y.2.sec⟩)]) (fun y=>TailW f b y.1 y.2∧coreZ f y.2=fin) ?_ ?_
 ·have hinv:=shape_inv (ls:=ls) (by rw [hsh0];exact hf0)
  rcases hinv with ⟨a',b',c',rfl,la,lb,lc,hs⟩ | ⟨a',b',rfl,la,lb,hs⟩ | ⟨a',b',rfl,la,lb,hs⟩
  ·obtain rfl:a'=a:=by injection ha with h;injection h with h;injection h
   obtain rfl:b'=b:=by injection hb with h;injection h with h;injection h
   rw [hsh0] at hs
   subst hs
   have hc:(strsD [a',b',c'])[((2:Int)).toNat]?=some [.str c']:=rfl
   have hall:validS a'=true∧validS b'=true∧validS c'=true:=by have h:=hg.symm;simpa using h
   obtain ⟨va,vb,_⟩:=hall
   generalize strsD [a',b',c']=LS at hc ⊢
   have tn:=qBs (cutL b' 15 18) (by rw [qBe b' 15 18 (by omega) (by omega)];decide)
   have te:=qBs (cutL b' 18 29) (by rw [qBe b' 18 29 (by omega) (by omega)];decide)
   have q1:(cutL a' 5 30).length=25:=by rw [qBe a' 5 30 (by omega) (by omega)];rfl
   have q2:(cutL b' 0 7).length=7:=by rw [qBe b' 0 7 (by omega) (by omega)];rfl
   have q3:(cutL b' 8 15).length=7:=by rw [qBe b' 8 15 (by omega) (by omega)];rfl
   have q4:(cutL b' 18 29).length=11:=by rw [qBe b' 18 29 (by omega) (by omega)];rfl
   have q5:(cutL a' 5 30++cutL b' 0 7).length=32:=by simp [q1,q2]
   have q6:(cutL a' 5 30++cutL b' 0 7++cutL b' 8 15).length=39:=by simp [q1,q2,q3]
   refine ww ?_
   refine qAa rfl (fun d1=>?_) (fun d1=>?_)
   rotate_left
   ·exact absurd d1 (by simp)
   refine ww ?_
   refine qAs (qAc (qAi hT rfl rfl rfl rfl (by decide) hc)) rfl rfl ?_
   refine wwn ?_
   refine qAz (fun i=>bif Nat.beq i 7||Nat.beq i 9 then [1] else []) (fun i=>bif Nat.beq i 7||Nat.beq i 9 then [1] else []) mixed (by kernel_rfl) ?_
   refine wwg ?_
   refine wwdc tn ?_
   refine wwg ?_
   refine wwdc te ?_
   refine wwg ?_
   refine ww ?_
   exact ⟨(cutS b' 0 15,fld1 a' b' c'),⟨⟨.inl rfl,⟨by omega,by omega⟩,by omega,by rw [qBh _ _ _ (by omega)],by rw [take_cutS,cutS_cutS];rfl,by rw [cutS_cutS];rfl,by rw [cutS_cutS];rfl,
    by rw [cutS_at b' 0 15 6 (by omega)];exact (cutS_one b' 6 (by omega)).symm,by rw [cutS_at b' 0 15 14 (by omega)];exact (cutS_one b' 14 (by omega)).symm,by omega,by rw [lb];exact (cutS_one b' 29 (by omega)).symm,
    qBh a' 14 15 (by omega),by show (cutS a' 5 14).length≤44;rw [qBh a' 5 14 (by omega)];omega,by show (cutS a' 15 30).length≤44;rw [qBh a' 15 30 (by omega)];omega,
    by show (cutS a' 5 30++cutS b' 0 7++cutS b' 8 15++cutS b' 18 29).length≤200;rw [List.length_append,List.length_append,List.length_append,qBh a' 5 30 (by omega),qBh b' 0 7 (by omega),qBh b' 8 15 (by omega),qBh b' 18 29 (by omega)];omega,by show c'.length≤44;omega,
    ⟨Nat.le_trans (cutS_le a' 0 2) (by omega),Nat.le_trans (cutS_le a' 2 5) (by omega),Nat.le_trans (cutS_le b' 15 18) (by omega),Nat.le_trans (cutS_le b' 18 29) (by omega),Nat.le_trans (cutS_le b' 7 8) (by omega)⟩,qAp _ _ va,qAp _ _ vb,qAp _ _ vb,qAp _ _ va,qBp (qBp (qBp (qAp _ _ va) (qAp _ _ vb)) (qAp _ _ vb)) (qAp _ _ vb)⟩,hfin⟩,
    ⟨.refl _,.refl _,.refl _,.refl _,.str (qAu a' 5 14),.str (qAu a' 14 15),.refl _,.str (qAu a' 15 30),
     .str (by show cutL a' (5:Nat) (30:Nat)++cutL b' (0:Nat) (7:Nat)++cutL b' (8:Nat) (15:Nat)++cutL b' (18:Nat) (29:Nat)=_;rw [qAu,qAu,qAu,qAu];rfl),.refl _,trivial⟩,
    ⟨ObLe.refl _,⟨.refl _,.refl _,.refl _,.refl _,.refl _,.refl _,.str (congrArg trimF (qAu b' 15 18)),.refl _,.refl _,.refl _,.refl _,.str (congrArg trimF (qAu b' 18 29)),trivial⟩,trivial⟩⟩
  ·obtain rfl:a'=a:=by injection ha with h;injection h with h;injection h
   obtain rfl:b'=b:=by injection hb with h;injection h with h;injection h
   rw [hsh0] at hs
   subst hs
   have hall:validS a'=true∧validS b'=true:=by have h:=hg.symm;simpa using h
   obtain ⟨va,vb⟩:=hall
   have hfin':coreZ 2 (fld2 a' b')=fin:=by
    rw [← hfin]
    show _=if a'.length=36 then coreZ 2 (fld2 a' b') else coreZ 3 (fld3 a' b')
    rw [if_pos la]
   generalize strsD [a',b']=LS
   have tn:=qBs (cutL b' 10 13) (by rw [qBe b' 10 13 (by omega) (by omega)];decide)
   have q1:(cutL b' 0 10).length=10:=by rw [qBe b' 0 10 (by omega) (by omega)];rfl
   have q2:(cutL b' 13 20).length=7:=by rw [qBe b' 13 20 (by omega) (by omega)];rfl
   have q3:(cutL b' 21 35).length=35-21:=by rw [qBe b' 21 35 (by omega) (by omega)];rfl
   have q5:(cutL b' 0 10++cutL b' 13 20).length=17:=by simp [q1,q2]
   refine ww ?_
   refine qAa rfl (fun d1=>?_) (fun d1=>?_)
   ·exact absurd d1 (by simp)
   refine ww ?_
   refine qAa rfl (fun d2=>?_) (fun d2=>?_)
   rotate_left
   ·exact absurd d2 (by simp)
   refine qAm ?_
   refine wx mixed ?_
   refine wwn ?_
   refine qAz (fun i=>bif Nat.beq i 12 then [1] else []) (fun i=>bif Nat.beq i 12 then [1] else []) mixed (by kernel_rfl) ?_
   refine wwg ?_
   refine wwdc tn ?_
   refine wwg ?_
   refine ww ?_
   exact ⟨(cutS b' 13 28,fld2 a' b'),⟨⟨.inr (.inl rfl),⟨by omega,by omega⟩,by omega,by rw [qBh _ _ _ (by omega)],by rw [take_cutS,cutS_cutS];rfl,by rw [cutS_cutS];rfl,by rw [cutS_cutS];rfl,
    by rw [cutS_at b' 13 28 6 (by omega)];exact (cutS_one b' 19 (by omega)).symm,by rw [cutS_at b' 13 28 14 (by omega)];exact (cutS_one b' 27 (by omega)).symm,by omega,by rw [lb];exact (cutS_one b' 35 (by omega)).symm,
    qBh b' 9 10 (by omega),by show (cutS b' 0 9).length≤44;rw [qBh b' 0 9 (by omega)];omega,by show (cutS b' 28 35).length≤44;rw [qBh b' 28 35 (by omega)];omega,
    by show (cutS b' 0 10++cutS b' 13 20++cutS b' 21 35).length≤200;rw [List.length_append,List.length_append,qBh b' 0 10 (by omega),qBh b' 13 20 (by omega),qBh b' 21 35 (by omega)];omega,by show (cutS a' 5 36).length≤44;rw [qBh a' 5 36 (by omega)];omega,
    ⟨Nat.le_trans (cutS_le a' 0 2) (by omega),Nat.le_trans (cutS_le a' 2 5) (by omega),Nat.le_trans (cutS_le b' 10 13) (by omega),Nat.zero_le _,Nat.le_trans (cutS_le b' 20 21) (by omega)⟩,qAp _ _ vb,qAp _ _ vb,qAp _ _ vb,qAp _ _ vb,qBp (qBp (qAp _ _ vb) (qAp _ _ vb)) (qAp _ _ vb)⟩,hfin'⟩,
    ⟨.refl _,.refl _,.refl _,.refl _,.refl _,.str (qAu b' 9 10),.str (qAu b' 13 28),.str (qAu b' 28 35),
     .str (by show cutL b' (0:Nat) (10:Nat)++cutL b' (13:Nat) (20:Nat)++cutL b' (21:Nat) (35:Nat)=_;rw [qAu,qAu,qAu];rfl),.str (cutS_drop a' 5 36 (by omega)).symm,trivial⟩,
    ⟨ObLe.refl _,⟨.refl _,.refl _,.refl _,.refl _,.refl _,.refl _,.str (congrArg trimF (qAu b' 10 13)),.refl _,.refl _,.refl _,.refl _,.refl _,trivial⟩,trivial⟩⟩
  ·obtain rfl:a'=a:=by injection ha with h;injection h with h;injection h
   obtain rfl:b'=b:=by injection hb with h;injection h with h;injection h
   rw [hsh0] at hs
   subst hs
   have hall:validS a'=true∧validS b'=true:=by have h:=hg.symm;simpa using h
   obtain ⟨va,vb⟩:=hall
   have hfin':coreZ 3 (fld3 a' b')=fin:=by
    rw [← hfin]
    show _=if a'.length=36 then coreZ 2 (fld2 a' b') else coreZ 3 (fld3 a' b')
    rw [if_neg (by omega)]
   generalize strsD [a',b']=LS
   have tn:=qBs (cutL b' 10 13) (by rw [qBe b' 10 13 (by omega) (by omega)];decide)
   have q1:(cutL b' 0 10).length=10:=by rw [qBe b' 0 10 (by omega) (by omega)];rfl
   have q2:(cutL b' 13 20).length=7:=by rw [qBe b' 13 20 (by omega) (by omega)];rfl
   have q3:(cutL b' 21 43).length=43-21:=by rw [qBe b' 21 43 (by omega) (by omega)];rfl
   have q5:(cutL b' 0 10++cutL b' 13 20).length=17:=by simp [q1,q2]
   refine ww ?_
   refine qAa rfl (fun d1=>?_) (fun d1=>?_)
   ·exact absurd d1 (by simp)
   refine ww ?_
   refine qAa rfl (fun d2=>?_) (fun d2=>?_)
   ·exact absurd d2 (by simp)
   refine qAm ?_
   refine wx mixed ?_
   refine wwn ?_
   refine qAz (fun i=>bif Nat.beq i 12 then [1] else []) (fun i=>bif Nat.beq i 12 then [1] else []) mixed (by kernel_rfl) ?_
   refine wwg ?_
   refine wwdc tn ?_
   refine wwg ?_
   refine ww ?_
   exact ⟨(cutS b' 13 28,fld3 a' b'),⟨⟨.inr (.inr rfl),⟨by omega,by omega⟩,by omega,by rw [qBh _ _ _ (by omega)],by rw [take_cutS,cutS_cutS];rfl,by rw [cutS_cutS];rfl,by rw [cutS_cutS];rfl,
    by rw [cutS_at b' 13 28 6 (by omega)];exact (cutS_one b' 19 (by omega)).symm,by rw [cutS_at b' 13 28 14 (by omega)];exact (cutS_one b' 27 (by omega)).symm,(fun _=>(cutS_one b' 42 (by omega)).symm),by rw [lb];exact (cutS_one b' 43 (by omega)).symm,
    qBh b' 9 10 (by omega),by show (cutS b' 0 9).length≤44;rw [qBh b' 0 9 (by omega)];omega,by show (cutS b' 28 42).length≤44;rw [qBh b' 28 42 (by omega)];omega,
    by show (cutS b' 0 10++cutS b' 13 20++cutS b' 21 43).length≤200;rw [List.length_append,List.length_append,qBh b' 0 10 (by omega),qBh b' 13 20 (by omega),qBh b' 21 43 (by omega)];omega,by show (cutS a' 5 44).length≤44;rw [qBh a' 5 44 (by omega)];omega,
    ⟨Nat.le_trans (cutS_le a' 0 2) (by omega),Nat.le_trans (cutS_le a' 2 5) (by omega),Nat.le_trans (cutS_le b' 10 13) (by omega),Nat.zero_le _,Nat.le_trans (cutS_le b' 20 21) (by omega)⟩,qAp _ _ vb,qAp _ _ vb,qAp _ _ vb,qAp _ _ vb,qBp (qBp (qAp _ _ vb) (qAp _ _ vb)) (qAp _ _ vb)⟩,hfin'⟩,
    ⟨.refl _,.refl _,.refl _,.refl _,.refl _,.str (qAu b' 9 10),.str (qAu b' 13 28),.str (qAu b' 28 42),
     .str (by show cutL b' (0:Nat) (10:Nat)++cutL b' (13:Nat) (20:Nat)++cutL b' (21:Nat) (43:Nat)=_;rw [qAu,qAu,qAu];rfl),.str (cutS_drop a' 5 44 (by omega)).symm,trivial⟩,
    ⟨ObLe.refl _,⟨.refl _,.refl _,.refl _,.refl _,.refl _,.refl _,.str (congrArg trimF (qAu b' 10 13)),.refl _,.refl _,.refl _,.refl _,.refl _,trivial⟩,trivial⟩⟩
 ·rintro ⟨days,x⟩ ⟨W,hcz⟩
  simp only at W hcz ⊢
  have tn:=qBs x.num (by have:=W.ln;omega)
  have tp:=qBs x.opt (by have:=W.lo;omega)
  have w1:=W.ld
  have w2:=W.lb
  have w3:=W.lb3
  refine qAm ?_
  refine qAz (fun i=>bif Nat.beq i 11||Nat.beq i 13||Nat.beq i 15||Nat.beq i 17||Nat.beq i 19 then [1] else []) (fun i=>bif Nat.beq i 11||Nat.beq i 13||Nat.beq i 15||Nat.beq i 17||Nat.beq i 19 then [1] else []) mixed (by kernel_rfl) ?_
  refine wwg ?_
  refine wwdc tn ?_
  refine wwg ?_
  refine wwdc tp ?_
  refine wwg ?_
  obtain ⟨c0,hdg⟩:∃ c0,x.dg=[c0]:=by
   have:=W.dg
   match h:x.dg,this with
   | [c],_=>exact ⟨c,rfl⟩
  refine AW_subL (l:=[(2,.ptr 0 0),(4,.d (.int .i64 f)),(7,.d (.str b)),(8,.ptr 1 0),(9,.d (.str x.num)),(10,.d (.str [c0])),(11,.d (.str days)),(12,.d (.str x.opt)),(13,.d (.str x.all)),(14,.d (.str x.names))])
   (h':=[.row (zCells zon0),.row (zCells ⟨f,trimF x.kind,trimF x.state,[],[],trimF x.num,trimF x.nat,x.bir,x.sex,x.exp,trimF x.opt,trimF x.sec⟩)]) ⟨.refl _,.refl _,.refl _,.refl _,.refl _,.str hdg,.refl _,.refl _,.refl _,.refl _,trivial⟩
   ⟨ObLe.refl _,⟨.refl _,.refl _,.refl _,.refl _,.refl _,.refl _,.refl _,.str W.bir,.str ((qAu days 7 8).trans W.sex),.str ((qAu days 8 14).trans W.exp),.refl _,.refl _,trivial⟩,trivial⟩ ?_
  have lbir:x.bir.length=6:=by rw [← W.bir];simp;omega
  have lexp:x.exp.length=6:=by rw [← W.exp,qBh _ _ _ (by omega)]
  have r1:=right_spec x.num c0 (by have:=W.ln;omega)
  have r2:=right_at x.bir days 6 (by omega) (by omega)
  have r3:=right_at x.exp days 14 (by omega) (by omega)
  obtain ⟨a1,ha1⟩:∃ a1,a1=(([c0]:List UInt8) == [60]):=⟨_,rfl⟩
  have hA:decide (x.dg=[60]∨x.dg=digitS x.num)=(a1||rightF x.num c0):=by
   unfold rightF
   rw [W.vn,hdg,ha1,Bool.true_and]
   exact dg_or c0 _
  have hB:decide (x.bd=digitS x.bir)=rightF x.bir (days.getD 6 0):=by unfold rightF;rw [W.vb,← W.bd,Bool.true_and,decide_eq_decide];exact eq_comm
  have hC:decide (x.ed=digitS x.exp)=rightF x.exp (days.getD 14 0):=by unfold rightF;rw [W.ve,← W.ed,Bool.true_and,decide_eq_decide];exact eq_comm
  have hEE:decide (x.comp=digitS x.all)=rightF x.all (b.getD (b.length-1) 0):=by unfold rightF;rw [W.va,← W.comp,Bool.true_and,decide_eq_decide];exact eq_comm
  have hD:decide (f≠3∨x.od=digitS x.opt∨(trimF x.opt=[]∧x.od=[60]))=!((f == 3)&&!rightF x.opt (b.getD 42 0)&&!((trimF x.opt == [])&&decide (b.getD 42 0=60))):=by
   unfold rightF
   rw [W.vo,Bool.true_and]
   exact od_or f _ _ _ _ W.od
  have hck:chkF f x=((a1||rightF x.num c0)&&(rightF x.bir (days.getD 6 0)&&(rightF x.exp (days.getD 14 0)&&((!((f == 3)&&!rightF x.opt (b.getD 42 0)&&!((trimF x.opt == [])&&decide (b.getD 42 0=60))))&&rightF x.all (b.getD (b.length-1) 0))))):=by
   unfold chkF;rw [hA,hB,hC,hD,hEE]
  unfold coreZ at hcz
  rw [hck] at hcz
  have r5:=fun h:f=3=>right_at x.opt b 42 (by have:=w3 h;omega) (by have:=W.lo;omega)
  have r6:=right_at x.all b (b.length-1) (by omega) (by have:=W.la;omega)
  clear hA hB hC hD hEE hck
  generalize rightF x.num c0=a2 at *
  generalize rightF x.bir (days.getD 6 0)=a3 at *
  generalize rightF x.exp (days.getD 14 0)=a4 at *
  generalize rightF x.all (b.getD (b.length-1) 0)=a6 at *
  refine qAm ?_
  refine ww ?_
  refine wwgc r1 ?_
  refine ww ?_
  refine wwgc r2 ?_
  refine ww ?_
  refine wwgc r3 ?_
  refine ww ?_
  refine qAa rfl (fun k1=>?_) (fun k1=>?_)
  ·have hx:((a1||a2)&&(a3&&(a4&&((!((f == 3)&&!rightF x.opt (b.getD 42 0)&&!((trimF x.opt == [])&&decide (b.getD 42 0=60))))&&a6))))=false:=by
    have k1':(!a1&&!a2||!a3||!a4)=true:=by rw [ha1];exact k1
    clear k1 ha1
    revert k1'
    cases a1 <;> cases a2 <;> cases a3 <;> cases a4 <;> simp
   rw [if_pos hx] at hcz
   subst hcz
   refine ww ?_
   exact wwr
  have k1':(!a1&&!a2||!a3||!a4)=false:=by rw [ha1];exact k1
  have hx:((a1||a2)&&(a3&&(a4&&((!((f == 3)&&!rightF x.opt (b.getD 42 0)&&!((trimF x.opt == [])&&decide (b.getD 42 0=60))))&&a6))))=((!((f == 3)&&!rightF x.opt (b.getD 42 0)&&!((trimF x.opt == [])&&decide (b.getD 42 0=60))))&&a6):=by
   clear k1 ha1
   revert k1'
   cases a1 <;> cases a2 <;> cases a3 <;> cases a4 <;> simp
  rw [hx] at hcz
  have hw42:(strAt b 42 == 60)=decide (b.getD 42 0=60)∨f≠3:=by
   by_cases h3:f=3
   ·left
    have:=w3 h3
    have h42:=strAt_60 (s:=b) (i:=42) (by omega)
    rw [List.getD_eq_getElem?_getD,List.getElem?_eq_getElem (by omega)]
    exact h42
   ·exact .inr h3
  refine ww ?_
  refine qAy rfl rfl rfl (fun hg=>⟨(sg (C:=True) hg).1,callS0 rfl rfl (r5 (by simpa [gval] using hg)) rfl rfl rfl⟩) ?_
  have hdd:((f == 3)&&!rightF x.opt (b.getD 42 0)&&!((trimF x.opt == [])&&strAt b 42 == 60))=((f == 3)&&!rightF x.opt (b.getD 42 0)&&!((trimF x.opt == [])&&decide (b.getD 42 0=60))):=by
   rcases hw42 with h | h
   ·rw [h]
   ·have:(f == 3)=false:=by simpa using h
    rw [this];simp
  rw [← hdd] at hcz
  clear hw42 hdd
  have hwl:IntKind.i64.wrap ((b.length:Int)-1)=((b.length-1:Nat):Int):=by rw [qAd (by omega)];omega
  refine ww ?_
  refine qAa rfl (fun k2=>?_) (fun k2=>?_)
  ·rw [k2,if_pos (by simp)] at hcz
   subst hcz
   refine ww ?_
   exact wwr
  rw [k2,Bool.not_false,Bool.true_and] at hcz
  refine ww ?_
  rw [hwl]
  refine ww ?_
  refine wwc r6 ?_
  refine ww ?_
  refine qAa rfl (fun k3=>?_) (fun k3=>?_)
  ·rw [if_pos (by simpa using k3)] at hcz
   subst hcz
   refine ww ?_
   exact wwr
  rw [if_neg (by simpa using k3)] at hcz
  clear k1 k1' k2 k3 hx r2 r3 r6 r5
  refine wwe ?_
  have hlt:=lenTo_le x.opt
  refine qAr (ι:=List UInt8×List UInt8) (fun _=>[(2,.ptr 0 0),(8,.ptr 1 0),(14,.d (.str x.names))]) (fun y=>[.row (zCells zon0),.row (zCells ⟨f,trimF x.kind,trimF x.state,[],[],y.1,trimF x.nat,x.bir,x.sex,x.exp,y.2,trimF x.sec⟩)])
   (fun y=>numF f x=(y.1,y.2,0)) ?_ ?_
  ·refine ww ?_
   refine qAa rfl (fun k4=>?_) (fun k4=>?_)
   rotate_left
   ·refine ww ?_
    refine ⟨(trimF x.num,trimF x.opt),?_,⟨.refl _,.refl _,.refl _,trivial⟩,HLe.refl _⟩
    unfold numF
    rw [if_pos (by rw [hdg];simpa using k4)]
   have h60:¬ x.dg≠[60]:=by rw [hdg];simpa using k4
   refine ww ?_
   refine qAn (ι:=Nat) (fun k=>[(2,.ptr 0 0),(4,.d (.int .i64 f)),(8,.ptr 1 0),(9,.d (.str x.num)),(12,.d (.str x.opt)),(14,.d (.str x.names)),(16,.d (.int .i64 (k:Int)))])
    (fun _=>[.row (zCells zon0),.row (zCells ⟨f,trimF x.kind,trimF x.state,[],[],trimF x.num,trimF x.nat,x.bir,x.sex,x.exp,trimF x.opt,trimF x.sec⟩)])
    (fun k=>k≤x.opt.length∧∀ (i:Nat) (c:UInt8),i < k→x.opt[i]?=some c→c≠60) (fun k=>x.opt.length-k) 0 ⟨by omega,fun i c hi=>by omega⟩ ⟨.refl _,.refl _,.refl _,.refl _,.refl _,.refl _,.refl _,trivial⟩ (HLe.refl _) ?_
   rintro k ⟨hk2,hne⟩
   have hwr2:IntKind.i64.wrap ((k:Int)+1)=((k+1:Nat):Int):=by have:=W.lo;rw [qAd (by omega)];simp
   refine ww ?_
   refine qAa rfl (fun k5=>?_) (fun k5=>?_)
   ·have hkl:k < x.opt.length:=by simp at k5;omega
    rw [show (strAt x.opt (k:Int) != 60)=!(strAt x.opt (k:Int) == 60) from rfl,strAt_60 hkl] at k5
    have hck:x.opt[k]≠60:=by simp at k5;exact k5.2
    refine ww ?_
    refine ⟨k+1,⟨hkl,fun i c hi hic=>?_⟩,by omega,⟨.refl _,.refl _,.refl _,.refl _,.refl _,.refl _,.int hwr2,trivial⟩,HLe.refl _⟩
    by_cases he:i=k
    ·subst he
     rw [List.getElem?_eq_getElem hkl] at hic
     cases hic;exact hck
    ·exact hne i c (by omega) hic
   have hkk:lenTo x.opt=k:=by
    refine lenTo_is hne hk2 ?_
    by_cases hkl:k < x.opt.length
    ·right
     rw [show (strAt x.opt (k:Int) != 60)=!(strAt x.opt (k:Int) == 60) from rfl,strAt_60 hkl] at k5
     rw [List.getElem?_eq_getElem hkl]
     simp [hkl] at k5
     rw [k5]
    ·left;omega
   subst hkk
   generalize hkd:lenTo x.opt=k at *
   refine ww ?_
   refine qAa rfl (fun k6=>?_) (fun k6=>?_)
   ·have hn1:numF f x=([],[],1):=by
     unfold numF
     rw [if_neg h60,if_pos (by rw [hkd];simp at k6;omega)]
    rw [hn1,if_pos (by simp)] at hcz
    subst hcz
    refine ww ?_
    exact wwr
   have k6':2≤k∧k < x.opt.length∧f≠3:=by simp at k6;omega
   have hwm:IntKind.i64.wrap ((k:Int)-1)=((k-1:Nat):Int):=by have:=W.lo;rw [qAd (by omega)];omega
   have hlo:=W.lo
   have hln2:=W.ln
   have lt1:(x.opt.take (k-1)).length≤44:=by simp;omega
   have vnn:validS (x.num++x.opt.take (k-1))=true:=qBp W.vn (validS_tk _ W.vo)
   have tq:=qBs (x.opt.drop (k+1)) (by simp;omega)
   have r7:=right_at (x.num++x.opt.take (k-1)) x.opt (k-1) (by omega) (by rw [List.length_append];omega)
   have hrf:rightF (x.num++x.opt.take (k-1)) (x.opt.getD (k-1) 0)=decide (digitS (x.num++x.opt.take (k-1))=[x.opt.getD (k-1) 0]):=by unfold rightF;rw [vnn,Bool.true_and]
   rw [hrf] at r7
   have hnF:numF f x=if [x.opt.getD (k-1) 0]≠digitS (x.num++x.opt.take (k-1)) then ([],[],13) else (x.num++x.opt.take (k-1),trimF (x.opt.drop (k+1)),0):=by
    unfold numF
    rw [if_neg h60,hkd,if_neg (by omega)]
   refine wwe ?_
   refine qAm ?_
   refine qAz (fun i=>bif Nat.beq i 12||Nat.beq i 14 then [1] else []) (fun i=>bif Nat.beq i 12||Nat.beq i 14 then [1] else []) mixed (by kernel_rfl) ?_
   refine wwg ?_
   rw [hwm,Int.toNat_natCast]
   refine wwg ?_
   rw [hwr2,Int.toNat_natCast]
   refine wwdc tq ?_
   refine wwg ?_
   refine ww ?_
   rw [hwm]
   refine ww ?_
   refine wwc r7 ?_
   refine ww ?_
   refine qAa rfl (fun k7=>?_) (fun k7=>?_)
   ·rw [if_pos (by simp at k7;exact fun h=>k7 h.symm)] at hnF
    rw [hnF,if_pos (by simp)] at hcz
    subst hcz
    refine ww ?_
    exact wwr
   rw [if_neg (by simp at k7;simp [k7])] at hnF
   refine wwe ?_
   exact ⟨(x.num++x.opt.take (k-1),trimF (x.opt.drop (k+1))),hnF,⟨.refl _,.refl _,.refl _,trivial⟩,HLe.refl _⟩
  ·rintro ⟨n',o'⟩ hnf
   simp only at hnf ⊢
   rw [hnf,if_neg (by simp)] at hcz
   have hsp:=SplitRef_spec x.names (by have:=W.lm;omega)
   have hsl2:=splitR_len x.names
   have hnl:=numF_len f x W.ln W.lo
   rw [hnf] at hnl
   have hz:finZ f x=⟨f,trimF x.kind,trimF x.state,(splitR x.names).1,(splitR x.names).2.1,n',trimF x.nat,x.bir,x.sex,x.exp,o',trimF x.sec⟩:=by unfold finZ;rw [hnf]
   have hvz:=ValidZ_spec (finZ f x) (by
    rw [hz]
    have:=W.lk
    have e1:=qBw x.kind
    have e2:=qBw x.state
    have e3:=qBw x.nat
    have e4:=qBw x.sec
    have e5:=W.lm
    unfold zLen
    simp only at hnl ⊢
    omega)
   rw [hz] at hvz hcz
   generalize splitR x.names=sp at *
   refine ww ?_
   refine wwc hsp ?_
   refine ww ?_
   refine qAa rfl (fun k8=>?_) (fun k8=>?_)
   ·rw [if_pos (by simpa using k8)] at hcz
    subst hcz
    refine ww ?_
    exact wwr
   rw [if_neg (by simpa using k8)] at hcz
   refine ww ?_
   refine wwc hvz ?_
   refine ww ?_
   refine qAa rfl (fun k9=>?_) (fun k9=>?_)
   ·rw [if_pos (by simpa using k9)] at hcz
    subst hcz
    refine ww ?_
    exact wwr
   rw [if_neg (by simpa using k9)] at hcz
   subst hcz
   refine ww ?_
   exact wwr
end Tdoc
/- ref11.Parse for all lines, the reference's OpenZone. -/
set_option maxHeartbeats 8000000
set_option maxRecDepth 100000
set_option linter.unusedVariables false
set_option linter.unusedSimpArgs false
namespace Tdoc
open Go Go.Proofs
theorem ParseRef_bad (ls:List (List UInt8)) (h0:shapeF ls=0) :
  Spec Tryz.prog 144 [.d (.sl 1 (strsD ls))] [] (fun r h'=>r=.tup [zAV zon0,.d (.int .i64 2)]∧h'=[]):=by
 have hfm:=Shape_spec ls
 rw [h0] at hfm
 refine qAb hT Tryz.func144 rfl rfl rfl rfl ?_;intro E hE
 refine ww ?_
 refine wwc hfm ?_
 refine ww ?_
 refine qAa rfl (fun c1=>?_) (fun c1=>?_)
 ·refine ww ?_
  exact wwr
 ·exact absurd c1 (by simp)
theorem ParseRef_spec (ls:List (List UInt8)) (hl:ls.length≤1000):Spec Tryz.prog 144 [.d (.sl 1 (strsD ls))] [] (fun r h'=>r=.tup [zAV (parseZ ls).1,.d (.int .i64 (parseZ ls).2)]∧h'=[]):=by
 by_cases h0:shapeF ls=0
 ·have hp:parseZ ls=(zon0,2):=by unfold parseZ;rw [if_pos h0]
  rw [hp]
  exact ParseRef_bad ls h0
 rcases shape_inv h0 with ⟨a,b,c,rfl,ha,hb,hc,hs⟩ | ⟨a,b,rfl,ha,hb,hs⟩ | ⟨a,b,rfl,ha,hb,hs⟩
 ·exact ParseRef_walk _ hl a b rfl rfl (getD_le (ls:=[a,b,c]) (n:=1000) (by intro s hs;simp at hs;rcases hs with rfl | rfl | rfl <;> omega)) _ rfl h0 (by omega)
 ·exact ParseRef_walk _ hl a b rfl rfl (getD_le (ls:=[a,b]) (n:=1000) (by intro s hs;simp at hs;rcases hs with rfl | rfl <;> omega)) _ rfl h0 (by omega)
 ·exact ParseRef_walk _ hl a b rfl rfl (getD_le (ls:=[a,b]) (n:=1000) (by intro s hs;simp at hs;rcases hs with rfl | rfl <;> omega)) _ rfl h0 (by omega)
theorem zoneL_many {l:List Node} (h:l.length≠1):zoneL l=(zon0,1):=by
 match l,h with
 | [],_=>rfl
 | [_],h=>exact absurd rfl h
 | _::_::_,_=>rfl
theorem OpenZoneR_spec (b:List UInt8) (hb:b.length≤9223372036854775807):Spec Tryz.prog 82 [.d (.sl 1 (encB b))] []
  (fun r h'=>r=.tup [zAV (zoneO b).1,.d (.int .i64 (zoneO b).2)]∧h'=[]):=by
 have ho:=openR_spec b (by omega) 1 1
 have hwg:=openX_wg b
 unfold zoneO
 by_cases h1:(openZ b 1 1).2.2=0
 case neg =>
  rw [if_pos h1]
  generalize openZ b 1 1=q at ho h1
  obtain ⟨n,l,e⟩:=q
  simp only at ho h1 ⊢
  refine qAb hT Tryz.func82 rfl rfl rfl rfl ?_;intro E hE
  refine ww ?_
  refine wwc ho ?_
  refine ww ?_
  refine qAa rfl (fun c1=>?_) (fun c1=>?_)
  ·refine ww ?_
   exact wwr
  ·exact absurd (by simpa using c1) h1
 obtain ⟨g1,g2,g3,g4,g5⟩:=openZ_ok h1
 rw [if_neg (by omega)]
 rw [← g3] at hwg
 rw [h1] at ho
 clear g1 g2 g3 g4 g5 h1
 generalize openZ b 1 1=q at ho hwg
 obtain ⟨n,l,e⟩:=q
 simp only at ho hwg ⊢
 have hlen:=qAh l
 by_cases h2:l.length=1
 case neg =>
  rw [zoneL_many h2]
  have hn:(((encNs l).length:Int) != 1)=true:=by rw [hlen];simp;omega
  refine qAb hT Tryz.func82 rfl rfl rfl rfl ?_;intro E hE
  refine ww ?_
  refine wwc ho ?_
  refine ww ?_
  refine qAa rfl (fun c1=>?_) (fun c1=>?_)
  ·exact absurd c1 (by simp)
  refine wwk hn ?_
  refine qAa rfl (fun c2=>?_) (fun c2=>?_)
  ·refine ww ?_
   exact wwr
  ·rw [hn] at c2
   exact absurd c2 (by simp)
 obtain ⟨t,v,k,rfl⟩:∃ t v k,l=[.mk t v k]:=match l,h2 with
  | [.mk t v k],_=>⟨t,v,k,rfl⟩
 have hel:(encNs [.mk t v k])[((0:Int)).toNat]?=some [.int .i64 t,.sl 1 (encB v),.sl 3 (encNs k)]:=rfl
 have hP:=qBo (.mk t v k) 24351 (-1)
 rw [qCe] at hP
 have hn1:(((encNs [.mk t v k]).length:Int) != 1)=false:=rfl
 have hv:v.length≤1000000:=by simp only [wgtL,wgtN] at hwg;omega
 unfold zoneL
 simp only [valN]
 generalize primF (.mk t v k) 24351 (-1)=cv at hP
 generalize hfin:(if cv=true then zoneT v else (zon0,1))=fin
 refine qAb hT Tryz.func82 rfl rfl rfl rfl ?_;intro E hE
 refine ww ?_
 refine wwc ho ?_
 refine ww ?_
 refine qAa rfl (fun c1=>?_) (fun c1=>?_)
 ·exact absurd c1 (by simp)
 refine ww ?_
 refine wwgi hel ?_
 refine ww ?_
 refine wwgc hP ?_
 refine ww ?_
 refine qAa rfl (fun c2=>?_) (fun c2=>?_)
 ·rw [if_neg (by rw [hn1] at c2;simpa using c2)] at hfin
  subst hfin
  refine ww ?_
  exact wwr
 rw [if_pos (by rw [hn1] at c2;simpa using c2)] at hfin
 unfold zoneT at hfin
 refine ww ?_
 refine wwi hel ?_
 refine ww ?_
 refine qBn hT rfl rfl (qAv _) ?_
 rw [qBc]
 refine ww ?_
 refine qAa rfl (fun d1=>?_) (fun d1=>?_)
 ·have hl:v.length=90:=by simp at d1;omega
  rw [if_pos hl] at hfin
  have hp:=ParseRef_spec [cutS v 0 30,cutS v 30 60,cutS v 60 90] (by simp)
  rw [hfin] at hp
  refine wwn ?_
  refine qAz (fun i=>bif Nat.beq i 10 then [0] else []) (fun i=>bif Nat.beq i 10 then [0] else []) mixed (by kernel_rfl) ?_
  refine wwg ?_
  have e1:v.take ((30:Int)).toNat=cutS v 0 30:=rfl
  have e2:cutL v 30 60=cutS v 30 60:=qAu v 30 60
  have e3:v.drop ((60:Int)).toNat=cutS v 60 90:=(cutS_drop v 60 90 (by omega)).symm
  rw [e1,e2,e3]
  refine qBd (os:=[]) (fun k hk1 hk2=>qDm hT rfl rfl) rfl ?_
  refine wwg ?_
  refine wwdc hp ?_
  refine wwg ?_
  refine ww ?_
  exact wwr
 have hl1:¬ v.length=90:=by simp at d1;omega
 rw [if_neg hl1] at hfin
 refine ww ?_
 refine qAa rfl (fun d2=>?_) (fun d2=>?_)
 ·have hl:v.length=72:=by simp at d2;omega
  rw [if_pos hl] at hfin
  have hp:=ParseRef_spec [cutS v 0 36,cutS v 36 72] (by simp)
  rw [hfin] at hp
  have hq:IntKind.i64.wrap (Int.tdiv (v.length:Int) 2)=36:=by rw [hl];rfl
  refine wwn ?_
  refine qAa rfl (fun d3=>?_) (fun d3=>?_)
  rotate_left
  ·rw [d2] at d3;exact absurd d3 (by simp)
  refine qAm ?_
  refine qAz (fun i=>bif Nat.beq i 14 then [0] else []) (fun i=>bif Nat.beq i 14 then [0] else []) mixed (by kernel_rfl) ?_
  refine wwg ?_
  rw [hq]
  refine wwg ?_
  have e1:v.take ((36:Int)).toNat=cutS v 0 36:=rfl
  have e3:v.drop ((36:Int)).toNat=cutS v 36 72:=(cutS_drop v 36 72 (by omega)).symm
  rw [e1,e3]
  refine qBd (os:=[]) (fun k hk1 hk2=>qDm hT rfl rfl) rfl ?_
  refine wwg ?_
  refine wwdc hp ?_
  refine wwg ?_
  refine ww ?_
  exact wwr
 have hl2:¬ v.length=72:=by simp at d2;omega
 rw [if_neg hl2] at hfin
 refine ww ?_
 refine qAa rfl (fun d3=>?_) (fun d3=>?_)
 ·have hl:v.length=88:=by simp at d3;omega
  rw [if_pos hl] at hfin
  have hp:=ParseRef_spec [cutS v 0 44,cutS v 44 88] (by simp)
  rw [hfin] at hp
  have hq:IntKind.i64.wrap (Int.tdiv (v.length:Int) 2)=44:=by rw [hl];rfl
  refine wwn ?_
  refine qAz (fun i=>bif Nat.beq i 14 then [0] else []) (fun i=>bif Nat.beq i 14 then [0] else []) mixed (by kernel_rfl) ?_
  refine wwg ?_
  rw [hq]
  refine wwg ?_
  have e1:v.take ((44:Int)).toNat=cutS v 0 44:=rfl
  have e3:v.drop ((44:Int)).toNat=cutS v 44 88:=(cutS_drop v 44 88 (by omega)).symm
  rw [e1,e3]
  refine qBd (os:=[]) (fun k hk1 hk2=>qDm hT rfl rfl) rfl ?_
  refine wwg ?_
  refine wwdc hp ?_
  refine wwg ?_
  refine ww ?_
  exact wwr
 have hl3:¬ v.length=88:=by simp at d3;omega
 rw [if_neg hl3] at hfin
 subst hfin
 refine ww ?_
 exact wwr
end Tdoc
