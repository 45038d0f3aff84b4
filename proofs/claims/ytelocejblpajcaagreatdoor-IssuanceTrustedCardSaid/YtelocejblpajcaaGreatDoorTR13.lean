/- Part 13 of the proof: the texts NB NC ND XY NE NF NG NH NJ NI NK NL ZJ NM NN XG XH XI NO XJ XK OA NP OE NQ. -/
import Derived.Test.YtelocejblpajcaaGreatDoorTR12
import Derived.Test.YtelocejblpajcaaGreatDoorTR6
set_option linter.unusedVariables false
set_option linter.unusedSimpArgs false
set_option maxHeartbeats 8000000
set_option maxRecDepth 100000
namespace Tdoc
open Go Go.Proofs
def qCk (w:Nat) (s:List UInt8):List UInt8:=(s++List.replicate w 60).take w
theorem fitW_length (w:Nat) (s:List UInt8):(qCk w s).length=w:=by simp [qCk]
theorem fitW_eq {w:Nat} {s:List UInt8} (h:s.length=w):qCk w s=s:=by unfold qCk;rw [← h];simp
theorem fitW_wide (w:Nat) (s:List UInt8):qCk w s=(qBo s w).take w:=by
 unfold qCk qBo
 rw [List.take_append,List.take_append,List.take_replicate,List.take_replicate,Nat.min_eq_left (by omega),Nat.min_self]
theorem fitW_le {w:Nat} {s:List UInt8} (h:s.length≤w):qCk w s=qBo s w:=by
 rw [fitW_wide,List.take_of_length_le]
 rw [wideS_length];omega
def qBu (l:List (Nat×Nat)) (F:Nat→List UInt8):List UInt8:=(l.map fun p=>qCk p.2 (F p.1)).flatten
def qEq (F:Nat→List UInt8) (i:Nat) (s:List UInt8):Nat→List UInt8:=fun j=>if j=i then s else F j
def vBx (l:List (Nat×Nat)):Nat:=(l.map Prod.snd).sum
theorem lineF_cons (p:Nat×Nat) (l:List (Nat×Nat)) (F:Nat→List UInt8):qBu (p::l) F=qCk p.2 (F p.1)++qBu l F:=rfl
theorem lineF_append (a b:List (Nat×Nat)) (F:Nat→List UInt8):qBu (a++b) F=qBu a F++qBu b F:=by simp [qBu]
theorem lineF_length (F:Nat→List UInt8):∀ l:List (Nat×Nat),(qBu l F).length=vBx l
 | []=>rfl
 | p::l=>by rw [lineF_cons,List.length_append,fitW_length,lineF_length F l];simp [vBx]
def qTy (l:List (Nat×Nat)) (i:Nat):Bool:=l.all fun p=>!Nat.beq p.1 i
theorem lineF_free {l:List (Nat×Nat)} {i:Nat} (h:qTy l i=true) (F:Nat→List UInt8) (s:List UInt8):qBu l (qEq F i s)=qBu l F:=by
 unfold qBu
 congr 1
 refine List.map_congr_left fun p hp=>?_
 unfold qTy at h
 rw [List.all_eq_true] at h
 have:=h p hp
 unfold qEq
 rw [if_neg (fun hh=>by rw [hh] at this;simp at this)]
theorem lineF_put {pre post:List (Nat×Nat)} {c i:Nat} (h1:qTy pre i=true) (h2:qTy post i=true) (F:Nat→List UInt8) (s:List UInt8) :
  qBu (pre++(i,c)::post) (qEq F i s)=(qBu (pre++(i,c)::post) F).take (vBx pre)++qCk c s++(qBu (pre++(i,c)::post) F).drop (vBx pre+c):=by
 rw [lineF_append,lineF_append,lineF_cons,lineF_cons,lineF_free h1,lineF_free h2]
 have hl:=lineF_length F pre
 have hc:=fitW_length c (F i)
 rw [List.take_left' hl,← List.append_assoc,← List.append_assoc,List.drop_left' (by rw [List.length_append,hl,hc])]
 simp [qEq]
theorem lineF_get {pre post:List (Nat×Nat)} {c i:Nat} (F:Nat→List UInt8):((qBu (pre++(i,c)::post) F).drop (vBx pre)).take c=qCk c (F i):=by
 rw [lineF_append,lineF_cons,List.drop_left' (lineF_length F pre),List.take_left' (fitW_length _ _)]
def qCa (f:Int) (k:Nat):List (Nat×Nat) :=
 if f=1 then (match k with | 0=>[(0,2),(1,3),(3,9),(4,1),(11,15)] | 1=>[(6,6),(7,1),(8,1),(9,6),(10,1),(5,3),(13,11),(14,1)] | 2=>[(2,30)] | _=>[])
 else if f=2 then (match k with | 0=>[(0,2),(1,3),(2,31)] | 1=>[(3,9),(4,1),(5,3),(6,6),(7,1),(8,1),(9,6),(10,1),(11,7),(14,1)] | _=>[])
 else (match k with | 0=>[(0,2),(1,3),(2,39)] | 1=>[(3,9),(4,1),(5,3),(6,6),(7,1),(8,1),(9,6),(10,1),(11,14),(12,1),(14,1)] | _=>[])
def qYh:List (Nat×Nat)→Nat→Option (List (Nat×Nat)×Nat×List (Nat×Nat))
 | [],_=>none
 | p::l,i=>if p.1=i then some ([],p.2,l) else (qYh l i).map fun x=>(p::x.1,x.2.1,x.2.2)
theorem segCut_eq:∀ {l:List (Nat×Nat)} {i:Nat} {x:List (Nat×Nat)×Nat×List (Nat×Nat)},qYh l i=some x→l=x.1++(i,x.2.1)::x.2.2
 | [],_,_,h=>by cases h
 | p::l,i,x,h=>by
  unfold qYh at h
  split at h
  ·rename_i e
   cases h
   obtain ⟨a,b⟩:=p
   simp only at e
   subst e
   rfl
  ·obtain ⟨y,hy,rfl⟩:=Option.map_eq_some_iff.1 h
   have:=segCut_eq hy
   simp only [List.cons_append]
   rw [← this]
def vIu (f:Int) (i:Nat):Bool :=
 if plC (qFw f) i=0 then (List.range 3).all fun k=>qTy (qCa f k) i
 else decide (0 < plC (qFw f) i)&&decide (0≤plA (qFw f) i∧plA (qFw f) i < vDm f)&&((List.range 3).all fun k=>decide ((k:Int)=plA (qFw f) i)||qTy (qCa f k) i)&&match qYh (qCa f (plA (qFw f) i).toNat) i with
  | some (pre,c,post)=>qTy pre i&&qTy post i&&decide (plB (qFw f) i=(vBx pre:Int))&&decide (plC (qFw f) i=(c:Int))&&decide (vBx pre+c≤vBx (qCa f (plA (qFw f) i).toNat))
  | none=>false
theorem places:∀ f∈[(1:Int),2,3],∀ i∈List.range 15,vIu f i=true:=by decide
structure PlaceOk (f:Int) (i:Nat) (k b c:Nat):Prop where
 a:plA (qFw f) i=(k:Int)
 b':plB (qFw f) i=(b:Int)
 c':plC (qFw f) i=(c:Int)
 pos:0 < c
 lt:(k:Int) < vDm f
 fit:b+c≤vBx (qCa f k)
 put:∀ F s,qBu (qCa f k) (qEq F i s)=(qBu (qCa f k) F).take b++qCk c s++(qBu (qCa f k) F).drop (b+c)
 get:∀ F,((qBu (qCa f k) F).drop b).take c=qCk c (F i)
 other:∀ j,j < 3→j≠k→∀ F s,qBu (qCa f j) (qEq F i s)=qBu (qCa f j) F
theorem vGt {f:Int} (hf:1≤f∧f≤3) {i:Nat} (hi:i < 15):(plC (qFw f) i=0∧∀ j,j < 3→∀ F s,qBu (qCa f j) (qEq F i s)=qBu (qCa f j) F)∨∃ k b c,PlaceOk f i k b c:=by
 have h:=places f (by simp;omega) i (List.mem_range.2 hi)
 unfold vIu at h
 split at h
 ·rename_i h0
  rw [List.all_eq_true] at h
  exact .inl ⟨h0,fun j hj F s=>lineF_free (h j (List.mem_range.2 hj)) F s⟩
 ·simp only [Bool.and_eq_true,decide_eq_true_eq] at h
  obtain ⟨⟨⟨h1,h2⟩,h3⟩,h4⟩:=h
  split at h4
  ·rename_i pre c post hs
   simp only [Bool.and_eq_true,decide_eq_true_eq] at h4
   obtain ⟨⟨⟨⟨g1,g2⟩,g3⟩,g4⟩,g5⟩:=h4
   have he:=segCut_eq hs
   rw [List.all_eq_true] at h3
   have ha:plA (qFw f) i=((plA (qFw f) i).toNat:Int):=(Int.toNat_of_nonneg h2.1).symm
   refine .inr ⟨(plA (qFw f) i).toNat,vBx pre,c,ha,g3,g4,by omega,by omega,g5,fun F s=>?_,fun F=>?_,fun j hj hne F s=>?_⟩
   ·simp only at he;rw [he];exact lineF_put g1 g2 F s
   ·simp only at he;rw [he];exact lineF_get F
   ·have:=h3 j (List.mem_range.2 hj)
    simp only [Bool.or_eq_true,decide_eq_true_eq] at this
    rcases this with h | h
    ·omega
    ·exact lineF_free h F s
  ·cases h4
def shO (L:List Int) (n:Nat):List AV:=qJh L++[.bm 1 n]
theorem shO_len {L:List Int} (hL:L.length=45) (n:Nat):(shO L n).length=46:=by simp [shO,qJh,hL]
theorem qLi (k:Nat) (L:List Int) (n:Nat) (hk:1 < k):qCo k (shO L n)=true:=by
 refine lowL_of fun c hc=>?_
 unfold shO qJh at hc
 rcases List.mem_append.1 hc with hc | hc
 ·obtain ⟨n,_,rfl⟩:=List.mem_map.1 hc;rfl
 ·rw [List.mem_singleton] at hc;subst hc;simp [low];omega
theorem shO_last {L:List Int} (hL:L.length=45) (n:Nat):(shO L n)[45]?=some (.bm 1 n):=by
 unfold shO qJh
 rw [List.getElem?_append_right (by simp;omega)]
 simp [hL]
theorem shO_at {L:List Int} (hL:L.length=45) (n:Nat) {k:Nat} (hk:k < 45):(shO L n)[k]?=some (.I (L.getD k 0)):=by
 unfold shO qJh
 rw [List.getElem?_append_left (by simp;omega),List.getElem?_map,List.getD_eq_getElem?_getD,List.getElem?_eq_getElem (by omega)]
 rfl
theorem shO_cut {L:List Int} (hL:L.length=45) (n:Nat) {i:Nat} (hi:i < 15):((shO L n).drop (0+i*3)).take 3=[.I (plA L i),.I (plB L i),.I (plC L i)]:=by
 have h0:=shO_at hL n (k:=3*i) (by omega)
 have h1:=shO_at hL n (k:=3*i+1) (by omega)
 have h2:=shO_at hL n (k:=3*i+2) (by omega)
 apply List.ext_getElem?
 intro j
 rw [List.getElem?_take]
 match j with
 | 0=>simp only [Nat.lt_add_one,if_true,show (0:Nat) < 3 by omega];rw [List.getElem?_drop,show 0+i*3+0=3*i by omega,h0];rfl
 | 1=>rw [if_pos (by omega),List.getElem?_drop,show 0+i*3+1=3*i+1 by omega,h1];rfl
 | 2=>rw [if_pos (by omega),List.getElem?_drop,show 0+i*3+2=3*i+2 by omega,h2];rfl
 | j+3=>rw [if_neg (by omega)];rfl
theorem setRun_bytes:∀ (new:List UInt8) (pre old post:List UInt8),old.length=new.length→qBv (qAn (pre++old++post)) pre.length (qAn new)=qAn (pre++new++post)
 | [],pre,old,post,h=>by cases old with | nil=>rfl | cons _ _=>simp at h
 | c::new,pre,old,post,h=>by
  cases old with
  | nil=>simp at h
  | cons d old =>
   have e:(qAn (pre++d::old++post)).set pre.length (.d (.int .u8 (c.toNat:Int)))=qAn ((pre++[c])++old++post):=by
    unfold qAn
    rw [List.append_assoc,List.map_append,List.set_append_right _ _ (by simp)]
    simp
   have ih:=setRun_bytes new (pre++[c]) old post (by simpa using h)
   show qBv ((qAn (pre++d::old++post)).set pre.length (.d (.int .u8 (c.toNat:Int)))) (pre.length+1) (qAn new)=_
   rw [e]
   simpa using ih
theorem setRun_line {s t:List UInt8} {b c:Nat} (ht:t.length=c) (hf:b+c≤s.length):qBv (qAn s) b (qAn t)=qAn (s.take b++t++s.drop (b+c)):=by
 have e:s=s.take b++(s.drop b).take c++s.drop (b+c):=by
  conv=>lhs;rw [← List.take_append_drop b s,← List.take_append_drop c (s.drop b),List.drop_drop]
  simp
 have h:=setRun_bytes t (s.take b) ((s.drop b).take c) (s.drop (b+c)) (by simp [ht];omega)
 rw [← e] at h
 rwa [show (s.take b).length=b by simp;omega] at h
theorem put20 (L:List Int) (hL:L.length=45) (i:Nat) (hi:i < 15) (b c w:Nat) (ha:plA L i=0) (hb:plB L i=(b:Int)) (hc:plC L i=(c:Int)) (hp:0 < c) (hf:b+c≤w) (hw1:w≤1000) (a0 a1 s:List UInt8) (hl:a0.length=w) (hs:s.length≤100000) :
  Spec Tryz.prog 168 [.ptr 0 0,.I (i:Int),.d (.str s)] [.row (shO L 2),.buf 1 2 [.rx 2 0 w,.rx 3 0 w],.row (qAn a0),.row (qAn a1)] (fun r h'=>r=.tup []∧h'=[.row (shO L 2),.buf 1 2 [.rx 2 0 w,.rx 3 0 w],.row (qAn (a0.take b++qCk c s++a0.drop (b+c))),.row (qAn a1)]):=by
 have hcut:=shO_cut hL 2 hi
 have hlen:=shO_len hL 2
 have hlast:=shO_last hL 2
 have hR:=qEp c (by omega)
 have hw:IntKind.i64.wrap ((b:Int)+(c:Int))=((b+c:Nat):Int):=by rw [qAe (by omega)];simp
 rw [ha,hb,hc] at hcut
 have hrow:qBv (qAn a0) b (qAn ((s++List.replicate c 60).take c))=qAn (a0.take b++qCk c s++a0.drop (b+c)):=setRun_line (fitW_length c s) (by omega)
 have hml:b+c≤(qAn a0).length:=by rw [byteAV_length];omega
 have hlow:qEg 4 [.row (shO L 2),.buf 1 2 [.rx 2 0 w,.rx 3 0 w],.row (qAn (a0.take b++qCk c s++a0.drop (b+c))),.row (qAn a1)]=true:=by simp only [qEg,vFz,qLi 4 L 2 (by omega),lowL_bytes];rfl
 generalize hsh:shO L 2=cells at *
 refine qAb hT Tryz.func168 rfl rfl rfl rfl ?_;intro E hE
 refine ww ?_
 refine qAd (qAc (arrPtr_ok hT rfl rfl rfl rfl ⟨by omega,by omega⟩)) rfl ?_
 refine qAd (qDg hT rfl rfl rfl (loadA_agg rfl rfl (by rw [hlen];simp;omega) hcut)) rfl ?_
 refine ww ?_
 refine qAa rfl (fun c1=>?_) (fun c1=>?_)
 case refine_2=>exact absurd c1 (by simp;omega)
 refine wwn ?_
 refine qBp (fun i=>bif Nat.beq i 3 then [0] else bif Nat.beq i 7 then [1] else bif Nat.beq i 21 then [2] else [4]) (fun i=>bif Nat.beq i 21 then [2] else []) mixed (by kernel_rfl) ?_
 refine wwg ?_
 refine qAk (v:=.bm 1 2) (os:=[]) (fun kk hk1 hk2=>qBr hT rfl rfl ((hk2 0 List.mem_cons_self).trans rfl) rfl rfl hlast) rfl ?_
 refine wwg ?_
 refine qIs (bufAddr_ok (sz:=1) hT rfl rfl rfl rfl (by omega)) rfl rfl ?_
 refine qAk (v:=.rx 2 0 w) (os:=[]) (fun kk hk1 hk2=>bufLoad_ok hT rfl rfl ((hk2 1 List.mem_cons_self).trans rfl) rfl rfl rfl) rfl ?_
 refine wwg ?_
 refine qAk (v:=.rx 2 b c) (os:=[]) (fun kk hk1 hk2=>vCv (l:=b) (r:=b+c) (sz:=1) hT rfl rfl rfl (by omega) ⟨_,rfl⟩ ⟨.i64,by rw [← hw];rfl⟩ (by omega) (by omega) (by simp)) rfl ?_
 refine wwg ?_
 refine wwdc hR ?_
 refine wwg ?_
 refine qAk (v:=.I (Nat.min (s++List.replicate c 60).length c:Nat)) (os:=[.row (qAn (a0.take b++qCk c s++a0.drop (b+c)))]) (fun kk hk1 hk2=>vEg hT rfl rfl rfl hp rfl ((hk2 2 List.mem_cons_self).trans rfl) hml rfl hrow) rfl ?_
 refine wwg ?_
 exact rxN ⟨rfl,rfl⟩ (h6:=hlow)
theorem put21 (L:List Int) (hL:L.length=45) (i:Nat) (hi:i < 15) (b c w:Nat) (ha:plA L i=1) (hb:plB L i=(b:Int)) (hc:plC L i=(c:Int)) (hp:0 < c) (hf:b+c≤w) (hw1:w≤1000) (a0 a1 s:List UInt8) (hl:a1.length=w) (hs:s.length≤100000) :
  Spec Tryz.prog 168 [.ptr 0 0,.I (i:Int),.d (.str s)] [.row (shO L 2),.buf 1 2 [.rx 2 0 w,.rx 3 0 w],.row (qAn a0),.row (qAn a1)] (fun r h'=>r=.tup []∧h'=[.row (shO L 2),.buf 1 2 [.rx 2 0 w,.rx 3 0 w],.row (qAn a0),.row (qAn (a1.take b++qCk c s++a1.drop (b+c)))]):=by
 have hcut:=shO_cut hL 2 hi
 have hlen:=shO_len hL 2
 have hlast:=shO_last hL 2
 have hR:=qEp c (by omega)
 have hw:IntKind.i64.wrap ((b:Int)+(c:Int))=((b+c:Nat):Int):=by rw [qAe (by omega)];simp
 rw [ha,hb,hc] at hcut
 have hrow:qBv (qAn a1) b (qAn ((s++List.replicate c 60).take c))=qAn (a1.take b++qCk c s++a1.drop (b+c)):=setRun_line (fitW_length c s) (by omega)
 have hml:b+c≤(qAn a1).length:=by rw [byteAV_length];omega
 have hlow:qEg 4 [.row (shO L 2),.buf 1 2 [.rx 2 0 w,.rx 3 0 w],.row (qAn a0),.row (qAn (a1.take b++qCk c s++a1.drop (b+c)))]=true:=by simp only [qEg,vFz,qLi 4 L 2 (by omega),lowL_bytes];rfl
 generalize hsh:shO L 2=cells at *
 refine qAb hT Tryz.func168 rfl rfl rfl rfl ?_;intro E hE
 refine ww ?_
 refine qAd (qAc (arrPtr_ok hT rfl rfl rfl rfl ⟨by omega,by omega⟩)) rfl ?_
 refine qAd (qDg hT rfl rfl rfl (loadA_agg rfl rfl (by rw [hlen];simp;omega) hcut)) rfl ?_
 refine ww ?_
 refine qAa rfl (fun c1=>?_) (fun c1=>?_)
 case refine_2=>exact absurd c1 (by simp;omega)
 refine wwn ?_
 refine qBp (fun i=>bif Nat.beq i 3 then [0] else bif Nat.beq i 7 then [1] else bif Nat.beq i 21 then [3] else [4]) (fun i=>bif Nat.beq i 21 then [3] else []) mixed (by kernel_rfl) ?_
 refine wwg ?_
 refine qAk (v:=.bm 1 2) (os:=[]) (fun kk hk1 hk2=>qBr hT rfl rfl ((hk2 0 List.mem_cons_self).trans rfl) rfl rfl hlast) rfl ?_
 refine wwg ?_
 refine qIs (bufAddr_ok (sz:=1) hT rfl rfl rfl rfl (by omega)) rfl rfl ?_
 refine qAk (v:=.rx 3 0 w) (os:=[]) (fun kk hk1 hk2=>bufLoad_ok hT rfl rfl ((hk2 1 List.mem_cons_self).trans rfl) rfl rfl rfl) rfl ?_
 refine wwg ?_
 refine qAk (v:=.rx 3 b c) (os:=[]) (fun kk hk1 hk2=>vCv (l:=b) (r:=b+c) (sz:=1) hT rfl rfl rfl (by omega) ⟨_,rfl⟩ ⟨.i64,by rw [← hw];rfl⟩ (by omega) (by omega) (by simp)) rfl ?_
 refine wwg ?_
 refine wwdc hR ?_
 refine wwg ?_
 refine qAk (v:=.I (Nat.min (s++List.replicate c 60).length c:Nat)) (os:=[.row (qAn (a1.take b++qCk c s++a1.drop (b+c)))]) (fun kk hk1 hk2=>vEg hT rfl rfl rfl hp rfl ((hk2 3 List.mem_cons_self).trans rfl) hml rfl hrow) rfl ?_
 refine wwg ?_
 exact rxN ⟨rfl,rfl⟩ (h6:=hlow)
def H2 (f:Int) (w:Nat) (F:Nat→List UInt8):List AObj:=[.row (shO (qFw f) 2),.buf 1 2 [.rx 2 0 w,.rx 3 0 w],.row (qAn (qBu (qCa f 0) F)),.row (qAn (qBu (qCa f 1) F))]
theorem layD_len45 (f:Int):(qFw f).length=45:=by unfold qFw;split;rfl;split;rfl;split;rfl;simp
theorem vMx {cells:List AV} {pre s post:List UInt8} {off:Nat} (h:cells=qAn (pre++s++post)) (hp:pre.length=off) (j:Nat) (c:UInt8) (hj:s[j]?=some c):cells[off+j]?=some (.d (.int .u8 (c.toNat:Int))):=by
 subst h;subst hp
 have hl:=(List.getElem?_eq_some_iff.1 hj).1
 unfold qAn
 rw [List.getElem?_map,List.append_assoc,List.getElem?_append_right (by omega),List.getElem?_append_left (by omega),show pre.length+j-pre.length=j by omega,hj]
 rfl
theorem vEe (s:List UInt8) (b c:Nat):s=s.take b++(s.drop b).take c++s.drop (b+c):=by
 conv=>lhs;rw [← List.take_append_drop b s,← List.take_append_drop c (s.drop b),List.drop_drop]
 simp
theorem vMz (L:List Int) (hL:L.length=45) (i:Nat) (hi:i < 15) (w:Nat) (hc:plC L i=0) (a0 a1 s:List UInt8) :
  Spec Tryz.prog 168 [.ptr 0 0,.I (i:Int),.d (.str s)] [.row (shO L 2),.buf 1 2 [.rx 2 0 w,.rx 3 0 w],.row (qAn a0),.row (qAn a1)] (fun r h'=>r=.tup []∧h'=[.row (shO L 2),.buf 1 2 [.rx 2 0 w,.rx 3 0 w],.row (qAn a0),.row (qAn a1)]):=by
 have hcut:=shO_cut hL 2 hi
 have hlen:=shO_len hL 2
 rw [hc] at hcut
 have hlow:qEg 4 [.row (shO L 2),.buf 1 2 [.rx 2 0 w,.rx 3 0 w],.row (qAn a0),.row (qAn a1)]=true:=by simp only [qEg,vFz,qLi 4 L 2 (by omega),lowL_bytes];rfl
 generalize hsh:shO L 2=cells at *
 refine qAb hT Tryz.func168 rfl rfl rfl rfl ?_;intro E hE
 refine ww ?_
 refine qAd (qAc (arrPtr_ok hT rfl rfl rfl rfl ⟨by omega,by omega⟩)) rfl ?_
 refine qAd (qDg hT rfl rfl rfl (loadA_agg rfl rfl (by rw [hlen];simp;omega) hcut)) rfl ?_
 refine ww ?_
 refine qAa rfl (fun c1=>?_) (fun c1=>?_)
 ·exact absurd c1 (by simp)
 refine ww ?_
 exact rxN ⟨rfl,rfl⟩ (h6:=hlow)
theorem get2 (L:List Int) (hL:L.length=45) (i:Nat) (hi:i < 15) (b c w:Nat) (ha:plA L i=1) (hb:plB L i=(b:Int)) (hc:plC L i=(c:Int)) (hp:0 < c) (hf:b+c≤w) (hw1:w≤1000) (a0 a1:List UInt8) (hl:a1.length=w) :
  Spec Tryz.prog 169 [.ptr 0 0,.I (i:Int)] [.row (shO L 2),.buf 1 2 [.rx 2 0 w,.rx 3 0 w],.row (qAn a0),.row (qAn a1)] (fun r h'=>r=.d (.str ((a1.drop b).take c))∧h'=[.row (shO L 2),.buf 1 2 [.rx 2 0 w,.rx 3 0 w],.row (qAn a0),.row (qAn a1)]):=by
 have hcut:=shO_cut hL 2 hi
 have hlen:=shO_len hL 2
 have hlast:=shO_last hL 2
 have hw:IntKind.i64.wrap ((b:Int)+(c:Int))=((b+c:Nat):Int):=by rw [qAe (by omega)];simp
 rw [ha,hb,hc] at hcut
 have hlow:qEg 4 [.row (shO L 2),.buf 1 2 [.rx 2 0 w,.rx 3 0 w],.row (qAn a0),.row (qAn a1)]=true:=by simp only [qEg,vFz,qLi 4 L 2 (by omega),lowL_bytes];rfl
 have hsl:((a1.drop b).take c).length=b+c-b:=by simp;omega
 have hat:=vMx (off:=b) (congrArg qAn (vEe a1 b c)) (by simp;omega)
 generalize hsh:shO L 2=cells at *
 generalize (a1.drop b).take c=fin at *
 generalize hrow:qAn a1=row at *
 refine qAb hT Tryz.func169 rfl rfl rfl rfl ?_;intro E hE
 refine ww ?_
 refine qAd (qAc (arrPtr_ok hT rfl rfl rfl rfl ⟨by omega,by omega⟩)) rfl ?_
 refine qAd (qDg hT rfl rfl rfl (loadA_agg rfl rfl (by rw [hlen];simp;omega) hcut)) rfl ?_
 refine ww ?_
 refine qAa rfl (fun c1=>?_) (fun c1=>?_)
 ·exact absurd c1 (by simp;omega)
 refine wwe ?_
 refine qAl ?_
 refine vFv mixed (by kernel_rfl) ?_
 refine wws ?_
 refine qBc (qBr hT rfl rfl rfl rfl rfl hlast) rfl rfl ?_
 refine wws ?_
 refine qBc (qAc (bufAddr_ok (sz:=1) hT rfl rfl rfl rfl (by omega))) rfl rfl ?_
 refine qBc (v:=.rx 3 0 w) (bufLoad_ok hT rfl rfl rfl rfl rfl rfl) rfl rfl ?_
 refine wws ?_
 refine qBc (vCv (v:=.rx 3 b (b+c-b)) (l:=b) (r:=b+c) (sz:=1) hT rfl rfl rfl (by omega) ⟨_,rfl⟩ ⟨.i64,by rw [← hw];rfl⟩ (by omega) (by omega) (by simp)) rfl rfl ?_
 refine qBc (rxStr_ok (s:=fin) hT rfl rfl rfl (by omega) rfl hsl (fun j c hj=>hat j c hj)) rfl rfl ?_
 refine ww ?_
 exact rq ⟨rfl,rfl⟩ rfl (.refl _) (h6:=hlow)
def qRs (ls:List (List UInt8)):List UInt8:=match ls with
 | [a,b,_]=>a.drop 5++b.take 7++qOf b 8 15++qOf b 18 29
 | [_,b]=>b.take 10++qOf b 13 20++qOf b 21 ((b.length:Int)-1)
 | _=>[]
theorem vCu (s:List UInt8) (j:Nat) (c:UInt8) (hj:s[j]?=some c):(qAn s)[0+j]?=some (.d (.int .u8 (c.toNat:Int))):=by
 rw [Nat.zero_add];unfold qAn;rw [List.getElem?_map,hj];rfl
theorem comp2 (L:List Int) (hL:L.length=45) (w:Nat) (hw0:w=36∨w=44) (a b:List UInt8) (hb:b.length=w) :
  Spec Tryz.prog 170 [.ptr 0 0] [.row (shO L 2),.buf 1 2 [.rx 2 0 w,.rx 3 0 w],.row (qAn a),.row (qAn b)]
   (fun r h'=>r=.d (.str (qRs [a,b]))∧h'=[.row (shO L 2),.buf 1 2 [.rx 2 0 w,.rx 3 0 w],.row (qAn a),.row (qAn b)]):=by
 have hlast:=shO_last hL 2
 have hw:IntKind.i64.wrap ((b.length:Int)-1)=(b.length:Int)-1:=qAe (by omega)
 have hl1:(qOf b 13 20).length=7:=by rw [cutL_len b 13 20 (by omega) (by omega)];rfl
 have hl2:(qOf b 21 ((b.length:Int)-1)).length≤44:=by rw [cutL_len b 21 _ (by omega) (by omega)];omega
 have hrb:=vCu b
 have hlow:qEg 4 [.row (shO L 2),.buf 1 2 [.rx 2 0 w,.rx 3 0 w],.row (qAn a),.row (qAn b)]=true:=by simp only [qEg,vFz,qLi 4 L 2 (by omega),lowL_bytes];rfl
 unfold qRs
 simp only
 generalize shO L 2=cells at *
 generalize qAn a=ra at *
 generalize qAn b=rb at *
 refine qAb hT Tryz.func170 rfl rfl rfl rfl ?_;intro E hE
 refine ww ?_
 refine qAd (qBr hT rfl rfl rfl rfl rfl hlast) rfl ?_
 refine ww ?_
 refine qAa rfl (fun c1=>?_) (fun c1=>?_)
 ·exact absurd c1 (by decide)
 refine ww ?_
 refine qAd (qBr hT rfl rfl rfl rfl rfl hlast) rfl ?_
 refine qAd (qAc (bufAddr_ok (sz:=1) hT rfl rfl rfl rfl (by omega))) rfl ?_
 refine qAd (v:=.rx 3 0 w) (bufLoad_ok hT rfl rfl rfl rfl rfl rfl) rfl ?_
 refine qAd (rxStr_ok (s:=b) hT rfl rfl rfl (by omega) rfl hb hrb) rfl ?_
 refine ww ?_
 rw [hw]
 refine ww ?_
 exact rq ⟨rfl,rfl⟩ rfl (.refl _) (h6:=hlow)
def FmtW (f:Int) (w:Nat):Prop:=(f=2∧w=36)∨(f=3∧w=44)
theorem qEz (f:Int) (w:Nat) (hfw:FmtW f w) (F:Nat→List UInt8) (i:Nat) (hi:i < 15) (s:List UInt8) (hs:s.length≤100000):Spec Tryz.prog 168 [.ptr 0 0,.I (i:Int),.d (.str s)] (H2 f w F) (fun r h'=>r=.tup []∧h'=H2 f w (qEq F i s)):=by
 have hl:∀ k,(qBu (qCa f k) F).length=vBx (qCa f k):=fun k=>lineF_length F _
 have hw:∀ k,k < 2→vBx (qCa f k)=w:=by rcases hfw with ⟨rfl,rfl⟩ | ⟨rfl,rfl⟩ <;> decide
 have hf3:1≤f∧f≤3:=by rcases hfw with ⟨rfl,rfl⟩ | ⟨rfl,rfl⟩ <;> omega
 have hn:vDm f=2:=by rcases hfw with ⟨rfl,rfl⟩ | ⟨rfl,rfl⟩ <;> rfl
 have hw1:w≤1000:=by rcases hfw with ⟨rfl,rfl⟩ | ⟨rfl,rfl⟩ <;> omega
 rcases vGt hf3 hi with ⟨h0,ho⟩ | ⟨k,b,c,p⟩
 ·unfold H2
  rw [ho 0 (by omega),ho 1 (by omega)]
  exact vMz (qFw f) (layD_len45 f) i hi w h0 _ _ s
 ·have hk:k < 2:=by have:=p.lt;rw [hn] at this;omega
  have hf:=p.fit
  rw [hw k hk] at hf
  unfold H2
  match k,hk,p with
  | 0,_,p =>
   rw [p.put,p.other 1 (by omega) (by omega)]
   exact put20 (qFw f) (layD_len45 f) i hi b c w p.a p.b' p.c' p.pos hf hw1 _ _ s (by rw [hl,hw 0 (by omega)]) hs
  | 1,_,p =>
   rw [p.put,p.other 0 (by omega) (by omega)]
   exact put21 (qFw f) (layD_len45 f) i hi b c w p.a p.b' p.c' p.pos hf hw1 _ _ s (by rw [hl,hw 1 (by omega)]) hs
def shB (L:List Int) (n:Nat):List AV:=qJh L++[.bm 3 n]
def HC2 (f:Int) (w:Nat) (F:Nat→List UInt8):List AObj:=[.row (shB (qFw f) 2),.buf 1 2 [.rx 4 0 w,.rx 5 0 w],.row (qAn (qBu (qCa f 0) F)),.row (qAn (qBu (qCa f 1) F))]
theorem renL_app (f:Nat→Nat):∀ (a b:List AV),qIf f (a++b)=qIf f a++qIf f b
 | [],b=>rfl
 | x::a,b=>by simp [qIf,renL_app f a b]
theorem vJm (f:Nat→Nat) (L:List Int) (n:Nat) (hf:f 1=3):qIf f (shO L n)=shB L n:=by
 unfold shO shB
 rw [renL_app,renL_low f (qJh L) (lowL_of fun c hc=>by unfold qJh at hc;obtain ⟨n,_,rfl⟩:=List.mem_map.1 hc;rfl)]
 simp [qIf,ren,hf]
theorem vDb (f:Nat→Nat) (s:List UInt8):qIf f (qAn s)=qAn s:=renL_low f _ (lowL_bytes 0 s)
theorem vIs (f:Int) (w:Nat) (F:Nat→List UInt8):(H2 f w F).map (qLb (fsf [2,3,4,5]))=HC2 f w F:=by
 simp only [H2,HC2,List.map_cons,List.map_nil,qLb,vDb,vJm _ _ _ (show fsf [2,3,4,5] 1=3 from rfl)]
 rfl
theorem vLs (f:Int) (w:Nat) (F:Nat→List UInt8):qEg 4 (H2 f w F)=true:=by simp only [H2,qEg,vFz,qLi 4 _ 2 (by omega),lowL_bytes];rfl
theorem call2 {E:Env} {o:Oper} {ρ:Operand→AV} {H H':List AObj} {f:Operand} {oas:List Operand} {ats:Array TypeId} {g:FuncId} {args:List AV} {F F':Nat→List UInt8} {r0:AV} {x:Int} {w:Nat} (ho:o.op=.call ⟨.value f,oas.toArray,ats⟩) (hf:ρ f=.fn (.func g) [] [])
  (S:Spec Tryz.prog g args (H2 x w F) (fun r h'=>r=r0∧h'=H2 x w F')) (hobj:[2,3,4,5].map (fun j=>H[j]?)=(HC2 x w F).map some) (hargs:oas.map ρ=qIf (fsf [2,3,4,5]) args) (hla:qCo 4 args=true) (hr:ren (fsf [2,3,4,5]) r0=r0)
  (hH:qGg H [2,3,4,5] (HC2 x w F')=H'):OpS Tryz.prog E o ρ H r0 H' :=
 qBs ho hf S [2,3,4,5] (by decide) (by rw [hobj,← vIs,List.map_map];rfl) (vLs x w F) (by simpa using hargs) hla hr (by rw [vIs];exact hH)
theorem qTx (f:Int) (w:Nat) (hfw:FmtW f w) (F:Nat→List UInt8) (i:Nat) (hi:i=3∨i=11):Spec Tryz.prog 169 [.ptr 0 0,.I (i:Int)] (H2 f w F) (fun r h'=>r=.d (.str (qCk (if i=3 then 9 else w-(if f=2 then 29 else 30)) (F i)))∧h'=H2 f w F):=by
 unfold H2
 rcases hfw with ⟨rfl,rfl⟩ | ⟨rfl,rfl⟩
 ·have hl:(qBu (qCa 2 1) F).length=36:=lineF_length F _
  rcases hi with rfl | rfl
  ·have e:((qBu (qCa 2 1) F).drop 0).take 9=qCk 9 (F 3):=lineF_get (pre:=[]) (post:=[(4,1),(5,3),(6,6),(7,1),(8,1),(9,6),(10,1),(11,7),(14,1)]) F
   rw [if_pos rfl,← e]
   exact get2 (qFw 2) (layD_len45 2) 3 (by omega) 0 9 36 rfl rfl rfl (by omega) (by omega) (by omega) _ _ hl
  ·have e:((qBu (qCa 2 1) F).drop 28).take 7=qCk 7 (F 11):=lineF_get (pre:=[(3,9),(4,1),(5,3),(6,6),(7,1),(8,1),(9,6),(10,1)]) (post:=[(14,1)]) F
   rw [if_neg (by omega),show 36-(if (2:Int)=2 then 29 else 30)=7 from rfl,← e]
   exact get2 (qFw 2) (layD_len45 2) 11 (by omega) 28 7 36 rfl rfl rfl (by omega) (by omega) (by omega) _ _ hl
 ·have hl:(qBu (qCa 3 1) F).length=44:=lineF_length F _
  rcases hi with rfl | rfl
  ·have e:((qBu (qCa 3 1) F).drop 0).take 9=qCk 9 (F 3):=lineF_get (pre:=[]) (post:=[(4,1),(5,3),(6,6),(7,1),(8,1),(9,6),(10,1),(11,14),(12,1),(14,1)]) F
   rw [if_pos rfl,← e]
   exact get2 (qFw 3) (layD_len45 3) 3 (by omega) 0 9 44 rfl rfl rfl (by omega) (by omega) (by omega) _ _ hl
  ·have e:((qBu (qCa 3 1) F).drop 28).take 14=qCk 14 (F 11):=lineF_get (pre:=[(3,9),(4,1),(5,3),(6,6),(7,1),(8,1),(9,6),(10,1)]) (post:=[(12,1),(14,1)]) F
   rw [if_neg (by omega),show 44-(if (3:Int)=2 then 29 else 30)=14 from rfl,← e]
   exact get2 (qFw 3) (layD_len45 3) 11 (by omega) 28 14 44 rfl rfl rfl (by omega) (by omega) (by omega) _ _ hl
theorem vBa (f:Int) (w:Nat) (hfw:FmtW f w) (F:Nat→List UInt8):Spec Tryz.prog 170 [.ptr 0 0] (H2 f w F) (fun r h'=>r=.d (.str (qRs [qBu (qCa f 0) F,qBu (qCa f 1) F]))∧h'=H2 f w F):=by
 refine comp2 (qFw f) (layD_len45 f) w ?_ _ _ ?_
 ·rcases hfw with ⟨rfl,rfl⟩ | ⟨rfl,rfl⟩ <;> simp
 ·rw [lineF_length];rcases hfw with ⟨rfl,rfl⟩ | ⟨rfl,rfl⟩ <;> rfl
def dgS (s:List UInt8):List UInt8:=(qBx s).1
theorem dgS_one {s:List UInt8} (h:qAt s=true):(dgS s).length=1:=qOe h
theorem dgS_valid {s:List UInt8} (h:qAt s=true):qAt (dgS s)=true:=by
 have hr:=digSum_range 0 s h
 unfold dgS qBx qZb
 rw [if_pos h]
 have hm:0≤qDl 0 s % 10∧qDl 0 s % 10 < 10:=⟨Int.emod_nonneg _ (by omega),Int.emod_lt_of_pos _ (by omega)⟩
 generalize qDl 0 s % 10=d at hm
 have:d=0∨d=1∨d=2∨d=3∨d=4∨d=5∨d=6∨d=7∨d=8∨d=9:=by omega
 rcases this with rfl | rfl | rfl | rfl | rfl | rfl | rfl | rfl | rfl | rfl <;> rfl
theorem qUa {s:List UInt8} (h:qAt s=true):qCk 1 (dgS s)=dgS s:=fitW_eq (dgS_one h)
theorem qYe {a b:List UInt8} {n:Nat} (h:a.length=n):(a++b).take n=a:=List.take_left' h
theorem vHl {a b:List UInt8} {n:Nat} (h:a.length=n):(a++b).drop n=b:=List.drop_left' h
theorem cutL_mid {a b c:List UInt8} {i j:Int} (h1:(a.length:Int)=i) (h2:i+(b.length:Int)=j):qOf (a++(b++c)) i j=b:=by
 unfold qOf
 subst h1;subst h2
 rw [Int.toNat_natCast,vHl rfl,qYe (by omega)]
theorem cutS_mid {a b c:List UInt8} {i j:Nat} (h1:a.length=i) (h2:i+b.length=j):qJo (a++(b++c)) i j=b:=by
 rw [cutS_L,cutL_mid (by omega) (by omega)]
structure Laid (z:Zon) (G:Nat→List UInt8) (w:Nat):Prop where
 kind:qCk 2 (G 0)=qBo z.kind 2
 state:qCk 3 (G 1)=qBo z.state 3
 nat:qCk 3 (G 5)=qBo z.nat 3
 bir:qCk 6 (G 6)++qCk 1 (G 7)=qAs z.bir
 sex:qCk 1 (G 8)=z.sex
 exp:qCk 6 (G 9)++qCk 1 (G 10)=qAs z.exp
 num:qCk 9 (G 3)++qCk 1 (G 4)=(qAy z.num).1
 opt:qCk w (G 11)=qBo ((qAy z.num).2++z.opt) w
theorem vJz {z:Zon} (ok:ZOk z) {G:Nat→List UInt8} {w:Nat} (hw:(z.opt.length:Int)+(if z.num.length≤9 then 0 else z.num.length-9+2)≤w) (h0:G 0=z.kind) (h1:G 1=z.state) (h5:G 5=z.nat) (h6:G 6=z.bir) (h7:G 7=dgS z.bir) (h8:G 8=z.sex) (h9:G 9=z.exp) (h10:G 10=dgS z.exp)
  (h3:G 3=if z.num.length > 9 then z.num.take 9 else z.num) (h4:G 4=if z.num.length > 9 then [] else dgS (qCk 9 z.num)) (h11:G 11=if z.num.length > 9 then z.num.drop 9++dgS z.num++[60]++z.opt else z.opt):Laid z G w:=by
 have n2:=qPx ok.num.2.2 ok.num.1
 refine ⟨by rw [h0,fitW_le ok.kind],by rw [h1,fitW_le ok.state],by rw [h5,fitW_le ok.nat],by rw [h6,h7,fitW_eq ok.bir.1,qUa ok.bir.2];rfl,by rw [h8,fitW_eq ok.sex],by rw [h9,h10,fitW_eq ok.exp.1,qUa ok.exp.2];rfl,?_,?_⟩
 ·rw [h3,h4]
  unfold qAy
  by_cases hl:z.num.length≤9
  ·rw [if_neg (by omega),if_neg (by omega),if_pos hl,fitW_le hl,qUa (validS_wide 9 ok.num.2.2)];rfl
  ·rw [if_pos (by omega),if_pos (by omega),if_neg hl,fitW_eq (by simp;omega)];rfl
 ·rw [h11]
  have hl2:=n2.2
  by_cases hl:z.num.length≤9
  ·rw [if_pos hl] at hw
   unfold qAy
   rw [if_neg (by omega),if_pos hl,fitW_le (by omega)];rfl
  ·rw [if_neg hl] at hw hl2
   have e:z.num.drop 9++dgS z.num++[60]++z.opt=(qAy z.num).2++z.opt:=by unfold qAy;rw [if_neg hl];rfl
   rw [if_pos (by omega),e,fitW_le (by rw [List.length_append,hl2];omega)]
theorem numberS_valid {n:List UInt8} (h:qAt n=true):qAt (qAy n).1=true∧qAt (qAy n).2=true:=by
 unfold qAy
 split
 ·refine ⟨?_,rfl⟩
  show qAt (qBo n 9++dgS (qBo n 9))=true
  rw [validS_append,validS_wide 9 h,dgS_valid (validS_wide 9 h)];rfl
 ·refine ⟨?_,?_⟩
  ·show qAt (n.take 9++[60])=true
   rw [validS_append,validS_tk 9 h];rfl
  ·show qAt (n.drop 9++dgS n++[60])=true
   rw [validS_append,validS_append,validS_drop 9 h,dgS_valid h];rfl
theorem checkedS_valid {s:List UInt8} (h:qAt s=true):qAt (qAs s)=true:=by
 show qAt (s++dgS s)=true
 rw [validS_append,h,dgS_valid h];rfl
theorem vGg {z:Zon} (ok:ZOk z) {ln:List UInt8→List UInt8} {l0 T s y:List UInt8} {m:Nat} (hl:∀ x,ln x=(qAy z.num).1++(qBo z.nat 3++(qAs z.bir++(z.sex++(qAs z.exp++(T++qCk 1 x)))))) (hT:qAt T=true) (hm:28+T.length=m)
  (hs:s=qRs [l0,ln y]):ln (dgS s)=((qAy z.num).1++qBo z.nat 3++qAs z.bir++z.sex++qAs z.exp++T)++(qBx (qJo ((qAy z.num).1++qBo z.nat 3++qAs z.bir++z.sex++qAs z.exp++T) 0 10++qJo ((qAy z.num).1++qBo z.nat 3++qAs z.bir++z.sex++qAs z.exp++T) 13 20++qJo ((qAy z.num).1++qBo z.nat 3++qAs z.bir++z.sex++qAs z.exp++T) 21 m)).1:=by
 have hN:=qPx ok.num.2.2 ok.num.1
 have hnv:=numberS_valid ok.num.2.2
 have hbl:=qJz ok.bir.2
 have hel:=qJz ok.exp.2
 rw [ok.bir.1] at hbl
 rw [ok.exp.1] at hel
 have hsl:=ok.sex
 have hbv:=checkedS_valid ok.bir.2
 have hev:=checkedS_valid ok.exp.2
 have enl:(qBo z.nat 3).length=3:=by rw [wideS_length];have:=ok.nat;omega
 have hcomp:s=(qAy z.num).1++qAs z.bir++(qAs z.exp++T):=by
  rw [hs]
  unfold qRs
  simp only
  have ht:((ln y).length:Int)-1=(m:Int):=by rw [hl];simp only [List.length_append,hN.1,enl,hbl,hsl,hel,fitW_length];omega
  rw [ht,hl,qYe hN.1]
  rw [← List.append_assoc (qAy z.num).1,cutL_mid (i:=13) (j:=20) (by rw [List.length_append,hN.1,enl];rfl) (by rw [hbl];rfl)]
  rw [← List.append_assoc _ (qAs z.bir),← List.append_assoc _ z.sex,← List.append_assoc (qAs z.exp) T,cutL_mid (i:=21) (j:=(m:Int)) (by simp only [List.length_append,hN.1,enl,hbl,hsl];rfl) (by rw [List.length_append,hel];omega)]
 have hv:qAt s=true:=by rw [hcomp];simp only [validS_append,hnv.1,hT,hbv,hev,Bool.and_self]
 have c1:∀ t:List UInt8,t=(qAy z.num).1++qBo z.nat 3++qAs z.bir++z.sex++qAs z.exp++T→qJo t 0 10=(qAy z.num).1∧qJo t 13 20=qAs z.bir∧qJo t 21 m=qAs z.exp++T:=fun t ht=>by
  refine ⟨?_,?_,?_⟩
  ·have:=cutS_mid (a:=[]) (b:=(qAy z.num).1) (c:=qBo z.nat 3++(qAs z.bir++(z.sex++(qAs z.exp++T)))) (i:=0) (j:=10) rfl (by omega)
   rw [ht];simpa using this
  ·have:=cutS_mid (a:=(qAy z.num).1++qBo z.nat 3) (b:=qAs z.bir) (c:=z.sex++(qAs z.exp++T)) (i:=13) (j:=20) (by rw [List.length_append,hN.1,enl]) (by omega)
   rw [ht];simpa using this
  ·have:=cutS_mid (a:=(qAy z.num).1++qBo z.nat 3++qAs z.bir++z.sex) (b:=qAs z.exp++T) (c:=[]) (i:=21) (j:=m) (by simp only [List.length_append,hN.1,enl,hbl,hsl]) (by rw [List.length_append];omega)
   rw [ht];simpa using this
 obtain ⟨d1,d2,d3⟩:=c1 _ rfl
 rw [d1,d2,d3]
 have hd:(qBx ((qAy z.num).1++qAs z.bir++(qAs z.exp++T))).1=dgS s:=by rw [hcomp];rfl
 rw [hd,hl,qUa hv]
 simp
theorem vGf (G:Nat→List UInt8) (i:Nat):qEq G i (G i)=G:=by funext j;unfold qEq;split <;> simp_all
theorem vAl {z:Zon} (ok:ZOk z) (hf:z.fmt=3) {G:Nat→List UInt8} (h:Laid z G 14) (h2:G 2=(qGq z.sur z.giv 39).1) (h2l:(qGq z.sur z.giv 39).1.length=39) (h12:G 12=if z.opt=[] then [] else dgS (qCk 14 z.opt)) (s:List UInt8)
  (hs:s=qRs [qBu (qCa 3 0) G,qBu (qCa 3 1) G]):[qBu (qCa 3 0) (qEq G 14 (dgS s)),qBu (qCa 3 1) (qEq G 14 (dgS s))]=qCp z:=by
 have l0:qBu (qCa 3 0) (qEq G 14 (dgS s))=qCk 2 (G 0)++(qCk 3 (G 1)++(qCk 39 (G 2)++[])):=rfl
 have l1:∀ F:Nat→List UInt8,qBu (qCa 3 1) F=qCk 9 (F 3)++(qCk 1 (F 4)++(qCk 3 (F 5)++(qCk 6 (F 6)++(qCk 1 (F 7)++(qCk 1 (F 8)++(qCk 6 (F 9)++(qCk 1 (F 10)++(qCk 14 (F 11)++(qCk 1 (F 12)++(qCk 1 (F 14)++[])))))))))):=fun F=>rfl
 have hn9:z.num.length≤9:=by have:=ok.num.2.1;unfold qRf at this;rw [if_neg (by omega),if_neg (by omega)] at this;omega
 have hn2:(qAy z.num).2=[]:=by unfold qAy;rw [if_pos hn9]
 have ho:=h.opt
 rw [hn2,List.nil_append] at ho
 have hol:(qBo z.opt 14).length=14:=by rw [← ho,fitW_length]
 have hlo:z.opt.length≤14:=by rw [wideS_length] at hol;omega
 have hov:=validS_wide 14 ok.opt.2
 have ed:qCk 1 (G 12)=if z.opt=[] then [60] else (qBx (qBo z.opt 14)).1:=by
  rw [h12]
  split
  ·rfl
  ·rw [fitW_le hlo,qUa hov];rfl
 have e1:∀ x,qBu (qCa 3 1) (qEq G 14 x)=(qAy z.num).1++(qBo z.nat 3++(qAs z.bir++(z.sex++(qAs z.exp++((qBo z.opt 14++qCk 1 (G 12))++qCk 1 x))))):=fun x=>by
  rw [l1,← h.num,← h.nat,← h.bir,← h.exp,← ho]
  show qCk 9 (G 3)++(qCk 1 (G 4)++(qCk 3 (G 5)++(qCk 6 (G 6)++(qCk 1 (G 7)++(qCk 1 (G 8)++(qCk 6 (G 9)++(qCk 1 (G 10)++(qCk 14 (G 11)++(qCk 1 (G 12)++(qCk 1 x++[]))))))))))=_
  rw [h.sex];simp
 have hv12:qAt (qCk 1 (G 12))=true:=by
  rw [ed]
  split
  ·rfl
  ·exact dgS_valid hov
 have:=vGg ok (l0:=qBu (qCa 3 0) G) (y:=G 14) (s:=s) (m:=43) e1 (by rw [validS_append,hov,hv12];rfl) (by rw [List.length_append,hol,fitW_length]) (by rw [vGf];exact hs)
 have eb:qCp z=(let o:=if z.opt=[] then [60] else (qBx (qBo z.opt 14)).1;let b:=(qAy z.num).1++qBo z.nat 3++qAs z.bir++z.sex++qAs z.exp++qBo z.opt 14++o;[qBo z.kind 2++qBo z.state 3++(qGq z.sur z.giv 39).1,b++(qBx (qJo b 0 10++qJo b 13 20++qJo b 21 43)).1]):=by
  unfold qCp vAj;rw [hf];rfl
 rw [eb,this,l0,h.kind,h.state,h2,fitW_eq h2l]
 simp only
 rw [← ed]
 simp
abbrev Ins:=List (Nat×Int×List UInt8)
def vMr (q:Ins):List (Dat×Dat):=q.map fun x=>(Dat.int .i64 x.2.1,Dat.str x.2.2)
def FK (q:Ins) (f:Nat):List UInt8:=match q.find? fun y=>y.2.1 == (f:Int) with
 | some y=>y.2.2
 | none=>[]
theorem vKa {q:Ins} (hok:vAi q=true) {x y:Nat×Int×List UInt8} (hx:x∈q) (hy:y∈q) (h:x.2.1=y.2.1):x=y:=by
 obtain ⟨a,ha⟩:=List.mem_iff_getElem?.1 hx
 obtain ⟨b,hb⟩:=List.mem_iff_getElem?.1 hy
 by_cases hab:a=b
 ·subst hab;rw [ha] at hb;exact Option.some.inj hb
 ·exact absurd h (okIns_spec hok ha hb hab).2
structure MapInv (q:Ins) (es:Array MapEntry) (x:Array Nat×(Nat→List UInt8)):Prop where
 sub:∀ f:Nat,x.2 f≠[]→∃ y∈q,y.2.1=(f:Int)∧y.2.2=x.2 f
 all:∀ e∈es.toList,x.1.contains e.born=true→∃ f:Nat,e.key=.int .i64 (f:Int)∧e.val=.string ⟨(x.2 f).toArray⟩
theorem MapInv.init (q:Ins) (es:Array MapEntry):MapInv q es (#[],fun _=>[]):=⟨fun f h=>absurd rfl h,fun e _ h=>by simp at h⟩
theorem vJi {a b:List UInt8} (h:(Value.string ⟨a.toArray⟩)=.string ⟨b.toArray⟩):a=b:=by simpa using h
theorem MapInv.step {q:Ins} (hok:vAi q=true) {es:Array MapEntry} {clock:Nat} (hA:MapIs (vMr q) es clock) {seen:Array Nat} {F:Nat→List UInt8} (h:MapInv q es (seen,F)) {e:MapEntry} (he:e∈es.toList) {y:Nat×Int×List UInt8} (hy:y∈q) {i:Nat} (hi:y.2.1=(i:Int))
  (h1:e.key=.int .i64 (i:Int)) (h2:e.val=.string ⟨y.2.2.toArray⟩):MapInv q es (seen.push e.born,qEq F i y.2.2):=by
 refine ⟨fun f hf=>?_,fun e' he' hc=>?_⟩
 ·show ∃ z∈q,z.2.1=(f:Int)∧z.2.2=qEq F i y.2.2 f
  have hf':qEq F i y.2.2 f≠[]:=hf
  unfold qEq at hf' ⊢
  split
  ·rename_i hfi;subst hfi;exact ⟨y,hy,hi,rfl⟩
  ·rename_i hfi;rw [if_neg hfi] at hf';exact h.sub f hf'
 ·obtain ⟨p,hp,k1,k2⟩:=hA.fwd e' he'
  obtain ⟨z,hz,rfl⟩:=List.mem_map.1 hp
  simp only [qFa] at k1 k2
  by_cases hzi:z.2.1=(i:Int)
  ·have hzy:=vKa hok hz hy (hzi.trans hi.symm)
   subst hzy
   refine ⟨i,by rw [k1,hzi],?_⟩
   show e'.val=.string ⟨(qEq F i z.2.2 i).toArray⟩
   unfold qEq
   rw [if_pos rfl,k2]
  ·have hne:e'.born≠e.born:=fun hb=>by
    have hst:=hA.st.2.1
    have:e'=e:=by
     have f1:=find_born e' es.toList hst he'
     have f2:=find_born e es.toList hst he
     rw [hb,f2] at f1
     exact (Option.some.inj f1).symm
    rw [this,h1] at k1
    exact hzi (by simpa using k1.symm)
   have hc':seen.contains e'.born=true:=by
    have hc2:(seen.push e.born).contains e'.born=true:=hc
    rw [contains_push] at hc2
    simp only [Bool.or_eq_true,beq_iff_eq] at hc2
    exact hc2.resolve_right hne
   obtain ⟨f,g1,g2⟩:=h.all e' he' hc'
   refine ⟨f,g1,?_⟩
   show e'.val=.string ⟨(qEq F i y.2.2 f).toArray⟩
   unfold qEq
   rw [if_neg (fun hfi=>?_)]
   ·exact g2
   ·subst hfi
    rw [g1] at k1
    exact hzi (by simpa using k1.symm)
theorem MapInv.done {q:Ins} (hok:vAi q=true) {es:Array MapEntry} {clock:Nat} (hA:MapIs (vMr q) es clock) {seen:Array Nat} {F:Nat→List UInt8} (h:MapInv q es (seen,F)) (h0:(leftOf es seen).size=0):F=FK q:=by
 have hall:∀ e∈es.toList,seen.contains e.born=true:=fun e he=>by
  cases hc:seen.contains e.born with
  | true=>rfl
  | false =>
   have:e∈leftOf es seen:=Array.mem_filter.2 ⟨Array.mem_toList_iff.1 he,by rw [hc];rfl⟩
   have:=Array.size_pos_of_mem this
   omega
 funext f
 unfold FK
 cases hf:q.find? fun y=>y.2.1 == (f:Int) with
 | some y =>
  have hy:=List.mem_of_find?_eq_some hf
  have hk:y.2.1=(f:Int):=by simpa using List.find?_some hf
  obtain ⟨e,he,k1,k2⟩:=hA.bwd _ (List.mem_map.2 ⟨y,hy,rfl⟩)
  simp only [qFa] at k1 k2
  obtain ⟨g,g1,g2⟩:=h.all e he (hall e he)
  rw [k1,hk] at g1
  have hgf:f=g:=by have h3:(f:Int)=(g:Int):=(by simpa using g1);omega
  subst hgf
  rw [k2] at g2
  exact (vJi g2).symm
 | none =>
  simp only
  by_cases hF:F f=[]
  ·exact hF
  ·obtain ⟨y,hy,hk,_⟩:=h.sub f hF
   have:=List.find?_eq_none.1 hf y hy
   simp [hk] at this
theorem vEh {a b:List UInt8} {n:Nat} (hn:n≤44) (hb:b.length=n):(qRs [a,b]).length≤1000:=by
 unfold qRs qOf
 simp
 omega
theorem hmt:Tryz.prog.underlying 256=some (.map 3 9):=by kernel_rfl
theorem hit:Tryz.prog.underlying 3=some (.int .i64):=by kernel_rfl
theorem namesF_ok {z:Zon} (h:validZ z=0) {w:Int} (hw:1≤w∧w≤64):(qGq z.sur z.giv w).1.length=w.toNat:=by
 unfold validZ at h
 split at h
 ·exact absurd h (by omega)
 rename_i hv
 simp only [not_or,Bool.not_eq_false] at hv
 obtain ⟨_,_,_,_,v1,v2,v3,_⟩:=hv
 unfold qGq
 rw [if_neg (by rw [v1,v3];simp [v2]),if_neg (by omega)]
 simp only
 rw [List.length_take,wideS_length]
 omega
def HLbook (zc:List AV) (i:Nat):List AObj:=match i with
 | 0=>[.row zc,.row (qJh (qFw 3)),.row (qJh (qFw 3)++[.sl 1 [] .full]),.room,.room,.room,.room,.room,.room,.room]
 | 1=>[.row zc,.row (qJh (qFw 3)),.row (qJh (qFw 3)++[.bm 3 1]),.buf 1 1 [.rx 4 0 44],.row (qAn (List.replicate 44 60)),.room,.dead,.room,.room,.room]
 | _=>[.row zc,.row (qJh (qFw 3)),.row (qJh (qFw 3)++[.bm 3 2]),.buf 1 2 [.rx 4 0 44,.rx 5 0 44],.row (qAn (List.replicate 44 60)),.row (qAn (List.replicate 44 60)),.dead,.dead,.room,.room]
theorem qOu (z:Zon) (hz:vJe z) (h0:validZ z=0) (hf:z.fmt=3):Spec Tryz.prog 88 [zAV z] [] (fun r h'=>r=.tup [.d (.sl 1 (qGu (qCp z))),.I 0]∧h'=[]):=by
 have hv:=qOi z hz
 have hlay:Spec Tryz.prog 164 [.I 3] [] (fun r h'=>r=.tup [.agg (qJh (qFw 3)),.I 2,.I 44]∧h'=[]):=qNv 3
 have hR:Spec Tryz.prog 165 [.d (.str [60]),.I 44] [] (fun r h'=>r=.d (.str (List.replicate 44 60))∧h'=[]):=qEp 44 (by omega)
 have hNm:=qXn z.sur z.giv 39 (by have:=hz.2.2.1;omega) (by have:=hz.2.2.2.1;omega)
 have hNl:=namesF_ok h0 (w:=39) (by omega)
 have hd1:Spec Tryz.prog 167 [.d (.str z.bir)] [] (fun r h'=>r=.d (.str (dgS z.bir))∧h'=[]):=digitP_spec z.bir (by have:=hz.2.2.2.2.2.2.1;omega)
 have hd2:Spec Tryz.prog 167 [.d (.str z.exp)] [] (fun r h'=>r=.d (.str (dgS z.exp))∧h'=[]):=digitP_spec z.exp (by have:=hz.2.2.2.2.2.2.2.2.1;omega)
 rw [h0] at hv
 have ok:=validZ_ok h0
 obtain ⟨fmt,kind,state,sur,giv,num,nat,bir,sex,exp,opt,sec⟩:=z
 unfold zAV qLu at hv ⊢
 simp only at hv hf hNm hNl hd1 hd2 ⊢
 subst hf
 generalize hnm:qGq sur giv 39=nm at hNm hNl
 obtain ⟨name,ne⟩:=nm
 simp only at hNm hNl
 have hkeys:∀ y∈([(3,0,kind),(6,1,state),(8,2,name),(11,5,nat),(14,6,bir),(18,7,dgS bir),(21,8,sex),(24,9,exp),(28,10,dgS exp),(31,13,sec)]:Ins),∃ i:Nat,i < 15∧y.2.1=(i:Int):=fun y hy=>by
  simp only [List.mem_cons,List.not_mem_nil,or_false] at hy
  rcases hy with rfl | rfl | rfl | rfl | rfl | rfl | rfl | rfl | rfl | rfl
  ·exact ⟨0,by omega,rfl⟩
  ·exact ⟨1,by omega,rfl⟩
  ·exact ⟨2,by omega,rfl⟩
  ·exact ⟨5,by omega,rfl⟩
  ·exact ⟨6,by omega,rfl⟩
  ·exact ⟨7,by omega,rfl⟩
  ·exact ⟨8,by omega,rfl⟩
  ·exact ⟨9,by omega,rfl⟩
  ·exact ⟨10,by omega,rfl⟩
  ·exact ⟨13,by omega,rfl⟩
 have hlen:∀ y∈([(3,0,kind),(6,1,state),(8,2,name),(11,5,nat),(14,6,bir),(18,7,dgS bir),(21,8,sex),(24,9,exp),(28,10,dgS exp),(31,13,sec)]:Ins),y.2.2.length≤100000:=fun y hy=>by
  have hb1:=qDd bir
  have hb2:=qDd exp
  obtain ⟨g1,g2,g3,g4,g5,g6,g7,g8,g9,g10,g11⟩:=hz
  simp only at g1 g2 g3 g4 g5 g6 g7 g8 g9 g10 g11
  simp only [List.mem_cons,List.not_mem_nil,or_false] at hy
  rcases hy with rfl | rfl | rfl | rfl | rfl | rfl | rfl | rfl | rfl | rfl <;> simp only [dgS] <;> omega
 have hflat:∀ p,p∈vMr [(3,0,kind),(6,1,state),(8,2,name),(11,5,nat),(14,6,bir),(18,7,dgS bir),(21,8,sex),(24,9,exp),(28,10,dgS exp),(31,13,sec)]→qGa p.1=true∧qGa p.2=true:=fun p hp=>by obtain ⟨y,_,rfl⟩:=List.mem_map.1 hp;exact ⟨rfl,rfl⟩
 refine qAb hT Tryz.func88 rfl rfl rfl rfl ?_;intro E hE
 refine ww ?_
 refine wwc hv ?_
 refine ww ?_
 refine qAa rfl (fun c1=>?_) (fun c1=>?_)
 ·exact absurd c1 (by simp)
 refine ww ?_
 refine wwc hlay ?_
 refine ww ?_
 refine qAo ?_
 refine qAo ?_
 refine qAo ?_
 refine qAo ?_
 refine qAo ?_
 refine qAo ?_
 refine qAo ?_
 refine qAq (ι:=Nat) (fun i=>[(1,.ptr 0 0),(5,.ptr 1 0),(7,.I 44),(8,.ptr 2 0),(31,.I 2),(32,.I (i:Int))]) (fun i=>HLbook [.I 3,.d (.str kind),.d (.str state),.d (.str sur),.d (.str giv),.d (.str num),.d (.str nat),.d (.str bir),.d (.str sex),.d (.str exp),.d (.str opt),.d (.str sec)] i) (fun i=>i≤2) (fun i=>2-i) 0 (by omega) yf (HLe.refl _) ?_
 intro i hi
 refine ww ?_
 refine qAa rfl (fun c2=>?_) (fun c2=>?_)
 ·have hi3:i=0∨i=1:=by have h3:(i:Int) < 2:=(by simpa using c2);omega
  rcases hi3 with rfl | rfl
  ·refine wwn ?_
   refine qBp (fun i=>bif Nat.beq i 4 then [2] else bif Nat.beq i 7 then [4] else bif Nat.beq i 8 then [6] else bif Nat.beq i 9 then [3,6] else bif Nat.beq i 12 then [2] else []) (fun i=>bif Nat.beq i 7 then [4] else bif Nat.beq i 8 then [6] else bif Nat.beq i 9 then [3] else bif Nat.beq i 12 then [2] else []) mixed (by kernel_rfl) ?_
   refine wwg ?_
   refine wwdc hR ?_
   refine qAk (v:=.rx 4 0 44) (os:=[.row (qAn (List.replicate 44 60))]) (fun kk hk1 hk2=>strRx_ok (s:=List.replicate 44 60) hT rfl rfl rfl ((hk2 4 List.mem_cons_self).trans rfl)) rfl ?_
   refine qAk (v:=.row 6 0 1 1) (os:=[.row [.rx 4 0 44]]) (fun kk hk1 hk2=>buildRowAt_ok hT rfl rfl ((hk2 6 List.mem_cons_self).trans rfl)) rfl ?_
   refine qAk (v:=.bm 3 1) (os:=[.buf 1 1 [.rx 4 0 44]]) (fun kk hk1 hk2=>bufAppRow0_ok hT rfl rfl rfl (.inl rfl) (by intro h;cases h) ((hk2 3 List.mem_cons_self).trans rfl) rfl ((hk2 6 (List.mem_cons_of_mem _ List.mem_cons_self)).trans rfl) rfl (by decide)) rfl ?_
   refine wwg ?_
   refine ww ?_
   exact ⟨1,by omega,by omega,yf,⟨.refl _,.refl _,.refl _,.refl _,.refl _,.refl _,trivial,.refl _,.refl _,.refl _,trivial⟩⟩
  ·refine wwn ?_
   refine qBp (fun i=>bif Nat.beq i 4 then [2] else bif Nat.beq i 7 then [5] else bif Nat.beq i 8 then [7] else bif Nat.beq i 9 then [3,7] else bif Nat.beq i 12 then [2] else []) (fun i=>bif Nat.beq i 7 then [5] else bif Nat.beq i 8 then [7] else bif Nat.beq i 9 then [3] else bif Nat.beq i 12 then [2] else []) mixed (by kernel_rfl) ?_
   refine wwg ?_
   refine wwdc hR ?_
   refine qAk (v:=.rx 5 0 44) (os:=[.row (qAn (List.replicate 44 60))]) (fun kk hk1 hk2=>strRx_ok (s:=List.replicate 44 60) hT rfl rfl rfl ((hk2 5 List.mem_cons_self).trans rfl)) rfl ?_
   refine qAk (v:=.row 7 0 1 1) (os:=[.row [.rx 5 0 44]]) (fun kk hk1 hk2=>buildRowAt_ok hT rfl rfl ((hk2 7 List.mem_cons_self).trans rfl)) rfl ?_
   refine qAk (v:=.bm 3 2) (os:=[.buf 1 2 [.rx 4 0 44,.rx 5 0 44]]) (fun kk hk1 hk2=>bufAppRow_ok hT rfl rfl rfl rfl ((hk2 3 List.mem_cons_self).trans rfl) rfl ((hk2 7 (List.mem_cons_of_mem _ List.mem_cons_self)).trans rfl) rfl (by decide)) rfl ?_
   refine wwg ?_
   refine ww ?_
   exact ⟨2,by omega,by omega,yf,⟨.refl _,.refl _,.refl _,.refl _,.refl _,.refl _,trivial,trivial,.refl _,.refl _,trivial⟩⟩
 have hi':i=2:=by have h3:¬ ((i:Int) < 2):=(by simpa using c2);omega
 subst hi'
 refine ww ?_
 first | refine qAd (qAc (arrPtr_ok hT rfl rfl rfl rfl (by decide))) rfl ?_ | refine qBc (qAc (arrPtr_ok hT rfl rfl rfl rfl (by decide))) rfl rfl ?_
 refine ww ?_
 refine wwc hNm ?_
 refine wws ?_
 refine qAp (l:=[(1,.ptr 0 0),(8,.ptr 2 0),(9,.d (.str name))]) (h':=[.row [.I 3,.d (.str kind),.d (.str state),.d (.str sur),.d (.str giv),.d (.str num),.d (.str nat),.d (.str bir),.d (.str sex),.d (.str exp),.d (.str opt),.d (.str sec)],.dead,.row (shB (qFw 3) 2),.buf 1 2 [.rx 4 0 44,.rx 5 0 44],.row (qAn (qBu (qCa 3 0) (fun _=>[]))),.row (qAn (qBu (qCa 3 1) (fun _=>[]))),.dead,.dead,.room,.room]) yf ⟨.refl _,trivial,.refl _,.refl _,ObLe.row rfl,ObLe.row rfl,trivial,trivial,.refl _,.refl _,trivial⟩ ?_
 refine qCf (ι:=Unit) (fun _=>[(1,.ptr 0 0),(8,.ptr 2 0)]) (fun _=>[.row [.I 3,.d (.str kind),.d (.str state),.d (.str sur),.d (.str giv),.d (.str num),.d (.str nat),.d (.str bir),.d (.str sex),.d (.str exp),.d (.str opt),.d (.str sec)],.dead,.row (shB (qFw 3) 2),.buf 1 2 [.rx 4 0 44,.rx 5 0 44],.row (qAn (qBu (qCa 3 0) (FK [(3,0,kind),(6,1,state),(8,2,name),(11,5,nat),(14,6,bir),(18,7,dgS bir),(21,8,sex),(24,9,exp),(28,10,dgS exp),(31,13,sec)]))),.row (qAn (qBu (qCa 3 1) (FK [(3,0,kind),(6,1,state),(8,2,name),(11,5,nat),(14,6,bir),(18,7,dgS bir),(21,8,sex),(24,9,exp),(28,10,dgS exp),(31,13,sec)]))),.dead,.dead,.dead,.dead]) (fun _=>True) ?_ ?_
 ·refine qAl ?_
  refine vIl (mapM 0 (vKb [(3,0,kind),(6,1,state),(8,2,name),(11,5,nat),(14,6,bir),(18,7,dgS bir),(21,8,sex),(24,9,exp),(28,10,dgS exp),(31,13,sec)])) 8 33 32 (fun _=>[0]) (fun _=>[]) mixed rfl (by kernel_rfl) (by kernel_rfl) rfl ?_
  refine vIg hT rfl (by kernel_rfl) (by decide) (qCd rfl) rfl ?_
  refine qDv (by decide) (by decide) (mapM_other rfl) ?_
  refine wwg ?_
  refine qDv (by decide) (by decide) (mapM_other rfl) ?_
  refine wwg ?_
  refine qGl hT rfl 0 rfl hmt hit rfl rfl rfl rfl rfl rfl (by kernel_rfl) rfl ?_
  refine qDv (by decide) (by decide) (mapM_other rfl) ?_
  refine wwg ?_
  refine qDv (by decide) (by decide) (mapM_other rfl) ?_
  refine wwg ?_
  refine qGl hT rfl 1 rfl hmt hit rfl rfl rfl rfl rfl rfl (by kernel_rfl) rfl ?_
  refine qDv (by decide) (by decide) (mapM_other rfl) ?_
  refine wwg ?_
  refine qGl hT rfl 2 rfl hmt hit rfl rfl rfl rfl rfl rfl (by kernel_rfl) rfl ?_
  refine qDv (by decide) (by decide) (mapM_other rfl) ?_
  refine wwg ?_
  refine qDv (by decide) (by decide) (mapM_other rfl) ?_
  refine wwg ?_
  refine qGl hT rfl 3 rfl hmt hit rfl rfl rfl rfl rfl rfl (by kernel_rfl) rfl ?_
  refine qDv (by decide) (by decide) (mapM_other rfl) ?_
  refine wwg ?_
  refine qDv (by decide) (by decide) (mapM_other rfl) ?_
  refine wwg ?_
  refine qGl hT rfl 4 rfl hmt hit rfl rfl rfl rfl rfl rfl (by kernel_rfl) rfl ?_
  refine qDv (by decide) (by decide) (mapM_other rfl) ?_
  refine wwg ?_
  refine qDv (by decide) (by decide) (mapM_other rfl) ?_
  refine wwg ?_
  refine qDv (by decide) (by decide) (mapM_other rfl) ?_
  refine wwdc hd1 ?_
  refine wwg ?_
  refine qGl hT rfl 5 rfl hmt hit rfl rfl rfl rfl rfl rfl (by kernel_rfl) rfl ?_
  refine qDv (by decide) (by decide) (mapM_other rfl) ?_
  refine wwg ?_
  refine qDv (by decide) (by decide) (mapM_other rfl) ?_
  refine wwg ?_
  refine qGl hT rfl 6 rfl hmt hit rfl rfl rfl rfl rfl rfl (by kernel_rfl) rfl ?_
  refine qDv (by decide) (by decide) (mapM_other rfl) ?_
  refine wwg ?_
  refine qDv (by decide) (by decide) (mapM_other rfl) ?_
  refine wwg ?_
  refine qGl hT rfl 7 rfl hmt hit rfl rfl rfl rfl rfl rfl (by kernel_rfl) rfl ?_
  refine qDv (by decide) (by decide) (mapM_other rfl) ?_
  refine wwg ?_
  refine qDv (by decide) (by decide) (mapM_other rfl) ?_
  refine wwg ?_
  refine qDv (by decide) (by decide) (mapM_other rfl) ?_
  refine wwdc hd2 ?_
  refine wwg ?_
  refine qGl hT rfl 8 rfl hmt hit rfl rfl rfl rfl rfl rfl (by kernel_rfl) rfl ?_
  refine qDv (by decide) (by decide) (mapM_other rfl) ?_
  refine wwg ?_
  refine qDv (by decide) (by decide) (mapM_other rfl) ?_
  refine wwg ?_
  refine qGl hT rfl 9 rfl hmt hit rfl rfl rfl rfl rfl rfl (by kernel_rfl) rfl ?_
  refine qDv (by decide) (by decide) (mapM_other rfl) ?_
  refine wwg ?_
  refine vFo (it:=9) rfl hmt rfl rfl rfl rfl rfl rfl rfl ?_
  intro bm es clock hA
  have hAm:MapIs (vMr [(3,0,kind),(6,1,state),(8,2,name),(11,5,nat),(14,6,bir),(18,7,dgS bir),(21,8,sex),(24,9,exp),(28,10,dgS exp),(31,13,sec)]) es clock:=hA
  refine ww ?_
  refine qAq (ι:=Array Nat×(Nat→List UInt8)) (fun x=>[(1,.ptr 0 0),(8,.ptr 2 0),(81,.ptr 9 0)]) (fun x=>[.row [.I 3,.d (.str kind),.d (.str state),.d (.str sur),.d (.str giv),.d (.str num),.d (.str nat),.d (.str bir),.d (.str sex),.d (.str exp),.d (.str opt),.d (.str sec)],.dead,.row (shB (qFw 3) 2),.buf 1 2 [.rx 4 0 44,.rx 5 0 44],.row (qAn (qBu (qCa 3 0) x.2)),.row (qAn (qBu (qCa 3 1) x.2)),.dead,.dead,.opq (vGy bm es clock),.opq (qRj bm clock x.1 clock)]) (fun x=>MapInv [(3,0,kind),(6,1,state),(8,2,name),(11,5,nat),(14,6,bir),(18,7,dgS bir),(21,8,sex),(24,9,exp),(28,10,dgS exp),(31,13,sec)] es x) (fun x=>(leftOf es x.1).size) (#[],fun _=>[]) (MapInv.init _ _) yf (HLe.refl _) ?_
  rintro ⟨seen,F⟩ hinv
  simp only
  refine ww ?_
  refine qCr (vJu (m:=8) hAm hflat rfl rfl rfl rfl) rfl ?_
  rintro u k (⟨h0',rfl,rfl⟩ | ⟨e,p,he,hp,e1,e2,rfl,rfl⟩)
  ·have hFF:=hinv.done (by kernel_rfl) hAm h0'
   subst hFF
   refine ww ?_
   refine qAa rfl (fun c3=>?_) (fun c3=>?_)
   ·exact absurd c3 (by simp)
   refine ww ?_
   exact ⟨(),trivial,yf,⟨.refl _,.refl _,.refl _,.refl _,.refl _,.refl _,trivial,trivial,trivial,trivial,trivial⟩⟩
  ·obtain ⟨y,hy,rfl⟩:=List.mem_map.1 hp
   obtain ⟨i,hi15,hyi⟩:=hkeys y hy
   have hys:=hlen y hy
   have hst:=hinv.step (by kernel_rfl) hAm (mem_left he).1 hy hyi (by rw [e1];simp only [qFa];rw [hyi]) e2
   have hsm:=left_shrinks es seen e he
   obtain ⟨ix,n,s⟩:=y
   simp only at hyi hys hst e1 e2
   subst hyi
   simp only
   refine ww ?_
   refine qAa rfl (fun c3=>?_) (fun c3=>?_)
   rotate_left
   ·exact absurd c3 (by simp)
   refine ww ?_
   refine qAd (vHj (m:=8) (e:=e) (p:=(.int .i64 (i:Int),.str s)) hAm ⟨rfl,rfl⟩ rfl rfl rfl rfl (mem_left he).1 e1 e2) rfl ?_
   refine ww ?_
   refine qAd (call2 (F:=F) (F':=qEq F i s) rfl rfl (qEz 3 44 (.inr ⟨rfl,rfl⟩) F i hi15 s hys) rfl rfl rfl rfl rfl) rfl ?_
   refine ww ?_
   exact ⟨(seen.push e.born,qEq F i s),hst,hsm,yf,HLe.refl _⟩
 ·intro _ _
  have hd3:=fun s hs=>digitP_spec s hs
  obtain ⟨g1,g2,g3,g4,g5,g6,g7,g8,g9,g10,g11⟩:=hz
  simp only at g1 g2 g3 g4 g5 g6 g7 g8 g9 g10 g11
  have hdn:=qDd num
  generalize hG:FK [(3,0,kind),(6,1,state),(8,2,name),(11,5,nat),(14,6,bir),(18,7,dgS bir),(21,8,sex),(24,9,exp),(28,10,dgS exp),(31,13,sec)]=G
  generalize hG1:(if num.length > 9 then qEq (qEq G 3 (num.take 9)) 11 (num.drop 9++dgS num++[60]++opt) else qEq (qEq (qEq G 3 num) 4 (dgS (qCk 9 num))) 11 opt)=G1
  refine qCf (ι:=Unit) (fun _=>[(1,.ptr 0 0),(8,.ptr 2 0)]) (fun _=>[.row [.I 3,.d (.str kind),.d (.str state),.d (.str sur),.d (.str giv),.d (.str num),.d (.str nat),.d (.str bir),.d (.str sex),.d (.str exp),.d (.str opt),.d (.str sec)],.dead,.row (shB (qFw 3) 2),.buf 1 2 [.rx 4 0 44,.rx 5 0 44],.row (qAn (qBu (qCa 3 0) G1)),.row (qAn (qBu (qCa 3 1) G1)),.dead,.dead,.dead,.dead]) (fun _=>True) ?_ ?_
  ·refine ww ?_
   refine qAa rfl (fun d1=>?_) (fun d1=>?_)
   ·have dl:num.length > 9:=by have h3:(9:Int) < (num.length:Int):=(by simpa using d1);omega
    rw [if_pos dl] at hG1
    subst hG1
    have hdg:=hd3 num (by omega)
    have hdl:num.length-9+(qBx num).1.length≤100000:=by omega
    refine ww ?_
    refine qAd (call2 (F:=G) (F':=qEq G 3 (num.take 9)) rfl rfl (qEz 3 44 (.inr ⟨rfl,rfl⟩) G 3 (by omega) (num.take 9) (by simp;omega)) rfl rfl rfl rfl rfl) rfl ?_
    refine wwn ?_
    refine qBp (fun i=>bif Nat.beq i 12 then [2,3,4,5] else [0]) (fun i=>bif Nat.beq i 12 then [2,3,4,5] else []) mixed (by kernel_rfl) ?_
    refine wwg ?_
    refine wwdc hdg ?_
    refine wwg ?_
    refine qAk (v:=.tup []) (os:=HC2 3 44 (qEq (qEq G 3 (num.take 9)) 11 (num.drop 9++dgS num++[60]++opt))) (fun kk hk1 hk2=>call2 (F:=qEq G 3 (num.take 9)) rfl rfl (qEz 3 44 (.inr ⟨rfl,rfl⟩) (qEq G 3 (num.take 9)) 11 (by omega) (num.drop 9++dgS num++[60]++opt) (by simp [dgS];omega)) (by simp only [List.map_cons,List.map_nil,hk2 2 (by decide),hk2 3 (by decide),hk2 4 (by decide),hk2 5 (by decide)];rfl) rfl rfl rfl rfl) rfl ?_
    refine wwg ?_
    exact ⟨(),trivial,yf,HLe.refl _⟩
   ·have dl:¬ num.length > 9:=by have h3:(num.length:Int)≤9:=(by simpa using d1);omega
    rw [if_neg dl] at hG1
    subst hG1
    have hdg:=hd3 (qCk 9 num) (by rw [fitW_length];omega)
    have hdl:=qDd (qCk 9 num)
    refine ww ?_
    refine qAd (call2 (F:=G) (F':=qEq G 3 num) rfl rfl (qEz 3 44 (.inr ⟨rfl,rfl⟩) G 3 (by omega) num (by omega)) rfl rfl rfl rfl rfl) rfl ?_
    refine ww ?_
    refine qAd (call2 (F:=qEq G 3 num) (F':=qEq G 3 num) (r0:=.d (.str (qCk 9 num))) rfl rfl (qTx 3 44 (.inr ⟨rfl,rfl⟩) (qEq G 3 num) 3 (.inl rfl)) rfl rfl rfl rfl rfl) rfl ?_
    refine wwc hdg ?_
    refine ww ?_
    refine qAd (call2 (F:=qEq G 3 num) (F':=qEq (qEq G 3 num) 4 (dgS (qCk 9 num))) rfl rfl (qEz 3 44 (.inr ⟨rfl,rfl⟩) (qEq G 3 num) 4 (by omega) (dgS (qCk 9 num)) (by show (qBx (qCk 9 num)).1.length≤_;omega)) rfl rfl rfl rfl rfl) rfl ?_
    refine ww ?_
    refine qAd (call2 (F:=qEq (qEq G 3 num) 4 (dgS (qCk 9 num))) (F':=qEq (qEq (qEq G 3 num) 4 (dgS (qCk 9 num))) 11 opt) rfl rfl (qEz 3 44 (.inr ⟨rfl,rfl⟩) (qEq (qEq G 3 num) 4 (dgS (qCk 9 num))) 11 (by omega) opt (by omega)) rfl rfl rfl rfl rfl) rfl ?_
    refine ww ?_
    exact ⟨(),trivial,yf,HLe.refl _⟩
  ·intro _ _
   generalize hG2:(if opt=[] then G1 else qEq G1 12 (dgS (qCk 14 (G1 11))))=G2
   refine qCf (ι:=Unit) (fun _=>[(1,.ptr 0 0),(8,.ptr 2 0)]) (fun _=>[.row [.I 3,.d (.str kind),.d (.str state),.d (.str sur),.d (.str giv),.d (.str num),.d (.str nat),.d (.str bir),.d (.str sex),.d (.str exp),.d (.str opt),.d (.str sec)],.dead,.row (shB (qFw 3) 2),.buf 1 2 [.rx 4 0 44,.rx 5 0 44],.row (qAn (qBu (qCa 3 0) G2)),.row (qAn (qBu (qCa 3 1) G2)),.dead,.dead,.dead,.dead]) (fun _=>True) ?_ ?_
   ·refine ww ?_
    refine qAa rfl (fun d2=>?_) (fun d2=>?_)
    ·have dl:opt≠[]:=by simpa using d2
     rw [if_neg dl] at hG2
     subst hG2
     have hdg:=hd3 (qCk 14 (G1 11)) (by rw [fitW_length];omega)
     have hdl:=qDd (qCk 14 (G1 11))
     refine ww ?_
     refine qAd (call2 (F:=G1) (F':=G1) (r0:=.d (.str (qCk 14 (G1 11)))) rfl rfl (qTx 3 44 (.inr ⟨rfl,rfl⟩) G1 11 (.inr rfl)) rfl rfl rfl rfl rfl) rfl ?_
     refine wwc hdg ?_
     refine ww ?_
     refine qAd (call2 (F:=G1) (F':=qEq G1 12 (dgS (qCk 14 (G1 11)))) rfl rfl (qEz 3 44 (.inr ⟨rfl,rfl⟩) G1 12 (by omega) (dgS (qCk 14 (G1 11))) (by show (qBx (qCk 14 (G1 11))).1.length≤_;omega)) rfl rfl rfl rfl rfl) rfl ?_
     refine ww ?_
     exact ⟨(),trivial,yf,HLe.refl _⟩
    ·have dl:opt=[]:=by simpa using d2
     rw [if_pos dl] at hG2
     subst hG2
     refine ww ?_
     exact ⟨(),trivial,yf,HLe.refl _⟩
   intro _ _
   generalize hs:qRs [qBu (qCa 3 0) G2,qBu (qCa 3 1) G2]=s
   have hsl:s.length≤1000:=by rw [← hs];exact vEh (by decide) (lineF_length G2 _)
   have k2:∀ j,j≠12→G2 j=G1 j:=fun j hj=>by
    rw [← hG2]
    split
    ·rfl
    ·unfold qEq;rw [if_neg hj]
   have k1:∀ j,j≠3→j≠4→j≠11→G1 j=G j:=fun j h3 h4 h11=>by
    rw [← hG1]
    split
    ·unfold qEq;rw [if_neg h11,if_neg h3]
    ·unfold qEq;rw [if_neg h11,if_neg h4,if_neg h3]
   have k0:∀ j,j≠3→j≠4→j≠11→j≠12→G2 j=FK [(3,0,kind),(6,1,state),(8,2,name),(11,5,nat),(14,6,bir),(18,7,dgS bir),(21,8,sex),(24,9,exp),(28,10,dgS exp),(31,13,sec)] j:=fun j h3 h4 h11 h12=>by rw [k2 j h12,k1 j h3 h4 h11,← hG]
   have e4:G 4=[]:=by rw [← hG];rfl
   have e12:G1 12=[]:=by rw [k1 12 (by omega) (by omega) (by omega),← hG];rfl
   have hroom:=ok.opt.1
   have hmost:=ok.num.2.1
   unfold vCx at hroom
   unfold qRf at hmost
   simp only at hroom hmost
   have e11:G1 11=if num.length > 9 then num.drop 9++dgS num++[60]++opt else opt:=by rw [← hG1];split <;> rfl
   have hwd:(opt.length:Int)+((if num.length≤9 then 0 else num.length-9+2:Nat):Int)≤((14:Nat):Int):=by
    by_cases hc:num.length≤9
    ·rw [if_pos hc]
     rw [if_neg (show ¬ num.length > 9 by omega)] at hroom
     simp at hroom ⊢
     omega
    ·rw [if_neg hc]
     rw [if_pos (show num.length > 9 by omega)] at hroom
     simp at hroom ⊢
     omega
   have hlaid:Laid ⟨3,kind,state,sur,giv,num,nat,bir,sex,exp,opt,sec⟩ G2 14:=vJz ok hwd
    (k0 0 (by omega) (by omega) (by omega) (by omega)) (k0 1 (by omega) (by omega) (by omega) (by omega)) (k0 5 (by omega) (by omega) (by omega) (by omega)) (k0 6 (by omega) (by omega) (by omega) (by omega)) (k0 7 (by omega) (by omega) (by omega) (by omega)) (k0 8 (by omega) (by omega) (by omega) (by omega)) (k0 9 (by omega) (by omega) (by omega) (by omega)) (k0 10 (by omega) (by omega) (by omega) (by omega))
    (by rw [k2 3 (by omega),← hG1];split <;> rfl) (by rw [k2 4 (by omega),← hG1];split;exact e4;rfl) (by rw [k2 11 (by omega)];exact e11)
   have hlines:[qBu (qCa 3 0) (qEq G2 14 (dgS s)),qBu (qCa 3 1) (qEq G2 14 (dgS s))]=qCp ⟨3,kind,state,sur,giv,num,nat,bir,sex,exp,opt,sec⟩:=vAl ok rfl hlaid (by rw [k0 2 (by omega) (by omega) (by omega) (by omega)];simp only;rw [hnm];rfl) (by simp only;rw [hnm];exact hNl) (by rw [← hG2];simp only;split;exact e12;show dgS (qCk 14 (G1 11))=_;rw [e11,if_neg (by simp at hmost;omega)]) s hs.symm
   have hcs:=vBa 3 44 (.inr ⟨rfl,rfl⟩) G2
   rw [hs] at hcs
   have hdg:=hd3 s (by omega)
   have hdl:=qDd s
   refine ww ?_
   refine qAd (call2 (F:=G2) (F':=G2) (r0:=.d (.str s)) rfl rfl hcs rfl rfl rfl rfl rfl) rfl ?_
   refine wwc hdg ?_
   refine ww ?_
   refine qAd (call2 (F:=G2) (F':=qEq G2 14 (dgS s)) rfl rfl (qEz 3 44 (.inr ⟨rfl,rfl⟩) G2 14 (by omega) (dgS s) (by show (qBx s).1.length≤_;omega)) rfl rfl rfl rfl rfl) rfl ?_
   generalize qEq G2 14 (dgS s)=G3 at hlines ⊢
   refine ww ?_
   refine qAo ?_
   refine qBb 13 1 10 (es:=[]) (.inr ⟨rfl,rfl⟩) rfl ?_
   refine qAq (ι:=Nat) (fun i=>[(142,.bm 3 2),(143,.I 2),(144,.I (i:Int)),(13,.sl 1 (qGu ([qBu (qCa 3 0) G3,qBu (qCa 3 1) G3].take i)) (.right 10))]) (fun i=>[.row [.I 3,.d (.str kind),.d (.str state),.d (.str sur),.d (.str giv),.d (.str num),.d (.str nat),.d (.str bir),.d (.str sex),.d (.str exp),.d (.str opt),.d (.str sec)],.dead,.row (shB (qFw 3) 2),.buf 1 2 [.rx 4 0 44,.rx 5 0 44],.row (qAn (qBu (qCa 3 0) G3)),.row (qAn (qBu (qCa 3 1) G3)),.dead,.dead,.dead,.dead,.right 1 i]) (fun i=>i≤2) (fun i=>2-i) 0 (by omega) yf (HLe.refl _) ?_
   intro i hi
   refine ww ?_
   refine qAa rfl (fun c5=>?_) (fun c5=>?_)
   ·have hi3:i=0∨i=1:=by have h3:(i:Int) < 2:=(by simpa using c5);omega
    rcases hi3 with rfl | rfl
    ·refine ww ?_
     refine qAd (qAc (bufAddr_ok (sz:=1) hT rfl rfl rfl rfl (by omega))) rfl ?_
     refine qAd (v:=.rx 4 0 44) (bufLoad_ok hT rfl rfl rfl rfl rfl rfl) rfl ?_
     refine ww ?_
     refine qAd (rxStr_ok (s:=qBu (qCa 3 0) G3) hT rfl rfl rfl (by omega) rfl (lineF_length G3 _) (vCu _)) rfl ?_
     refine ww ?_
     refine qAd (qAh (i:=10) hT rfl rfl rfl rfl rfl rfl (by show (0+1)*(16+1)≤140737488355328;omega)) rfl ?_
     refine ww ?_
     exact ⟨1,by omega,by omega,yf,HLe.refl _⟩
    ·refine ww ?_
     refine qAd (qAc (bufAddr_ok (sz:=1) hT rfl rfl rfl rfl (by omega))) rfl ?_
     refine qAd (v:=.rx 5 0 44) (bufLoad_ok hT rfl rfl rfl rfl rfl rfl) rfl ?_
     refine ww ?_
     refine qAd (rxStr_ok (s:=qBu (qCa 3 1) G3) hT rfl rfl rfl (by omega) rfl (lineF_length G3 _) (vCu _)) rfl ?_
     refine ww ?_
     refine qAd (qAh (i:=10) hT rfl rfl rfl rfl rfl rfl (by show (1+1)*(16+1)≤140737488355328;omega)) rfl ?_
     refine ww ?_
     exact ⟨2,by omega,by omega,yf,HLe.refl _⟩
   have hi':i=2:=by have h3:¬ ((i:Int) < 2):=(by simpa using c5);omega
   subst hi'
   refine ww ?_
   exact rq ⟨rfl,rfl⟩ rfl (AV.le.tup ⟨AV.le.dat' (by rw [← hlines];rfl),.refl _,trivial⟩)
theorem encSs_length (l:List (List UInt8)):(qGu l).length=l.length:=by simp [qGu]
theorem checkedS_le (s:List UInt8):(qAs s).length≤s.length+1:=by unfold qAs;rw [List.length_append];have:=qDd s;omega
theorem wideS_le (s:List UInt8) (n:Nat):(qBo s n).length≤s.length+n:=by rw [wideS_length];omega
theorem numberS_le (s:List UInt8):(qAy s).1.length≤s.length+20∧(qAy s).2.length≤s.length+2:=by
 unfold qAy
 split
 ·have h1:=checkedS_le (qBo s 9)
  have h2:=wideS_le s 9
  exact ⟨by simp only;omega,by simp⟩
 ·have:=qDd s
  refine ⟨?_,?_⟩
  ·show (s.take 9++[60]).length≤_
   rw [List.length_append,List.length_take];simp;omega
  ·show (s.drop 9++(qBx s).1++[60]).length≤_
   rw [List.length_append,List.length_append,List.length_drop];simp;omega
theorem buildZ_len {z:Zon} (hz:vJe z):(qCp z).flatten.length≤200000∧(qCp z).length≤3:=by
 obtain ⟨z1,z2,z3,z4,z5,z6,z7,z8,z9,z10,z11⟩:=hz
 have a1:=wideS_le z.kind 2
 have a2:=wideS_le z.state 3
 have a3:=checkedS_le z.bir
 have a4:=checkedS_le z.exp
 have a5:=wideS_le z.nat 3
 have a6:=numberS_le z.num
 have a7:=wideS_le ((qAy z.num).2++z.opt) 15
 have a8:=wideS_le ((qAy z.num).2++z.opt) 7
 have a9:=wideS_le z.opt 14
 have a10:=wideS_le z.sec 11
 have a11:(qGq z.sur z.giv (vAj z.fmt)).1.length≤39:=by
  have:=vDi z.sur z.giv (vAj z.fmt)
  have hw:vAj z.fmt≤39:=by unfold vAj;split <;> (try split) <;> omega
  omega
 rw [List.length_append] at a7 a8
 unfold qCp
 split
 ·refine ⟨?_,by simp⟩
  have d1:=fun s=>qDd s
  simp only [List.flatten_cons,List.flatten_nil,List.length_append,List.length_nil]
  have:=d1 (qJo (qBo z.kind 2++qBo z.state 3++(qAy z.num).1++qBo ((qAy z.num).2++z.opt) 15) 5 30++qJo (qAs z.bir++z.sex++qAs z.exp++qBo z.nat 3++qBo z.sec 11) 0 7++qJo (qAs z.bir++z.sex++qAs z.exp++qBo z.nat 3++qBo z.sec 11) 8 15++qJo (qAs z.bir++z.sex++qAs z.exp++qBo z.nat 3++qBo z.sec 11) 18 29)
  omega
 ·split
  ·refine ⟨?_,by simp⟩
   simp only [List.flatten_cons,List.flatten_nil,List.length_append,List.length_nil]
   have:=qDd (qJo ((qAy z.num).1++qBo z.nat 3++qAs z.bir++z.sex++qAs z.exp++qBo ((qAy z.num).2++z.opt) 7) 0 10++qJo ((qAy z.num).1++qBo z.nat 3++qAs z.bir++z.sex++qAs z.exp++qBo ((qAy z.num).2++z.opt) 7) 13 20++qJo ((qAy z.num).1++qBo z.nat 3++qAs z.bir++z.sex++qAs z.exp++qBo ((qAy z.num).2++z.opt) 7) 21 35)
   omega
  ·have ho:(if z.opt=[] then [60] else (qBx (qBo z.opt 14)).1).length≤1:=by
    split
    ·simp
    ·exact qDd _
   refine ⟨?_,by simp⟩
   generalize (if z.opt=[] then [60] else (qBx (qBo z.opt 14)).1)=o at ho ⊢
   simp only [List.flatten_cons,List.flatten_nil,List.length_append,List.length_nil]
   have:=qDd (qJo ((qAy z.num).1++qBo z.nat 3++qAs z.bir++z.sex++qAs z.exp++qBo z.opt 14++o) 0 10++qJo ((qAy z.num).1++qBo z.nat 3++qAs z.bir++z.sex++qAs z.exp++qBo z.opt 14++o) 13 20++qJo ((qAy z.num).1++qBo z.nat 3++qAs z.bir++z.sex++qAs z.exp++qBo z.opt 14++o) 21 43)
   omega
theorem octB_one {n:Nat}:qAw 1 n=[bOf (n:Int)]:=by
 have e:((n:Int) % 256).toNat=n % 256:=by omega
 unfold bOf;rw [e];rfl
theorem octB_two {n:Nat} (h:n < 65536):qAw 2 n=[bOf ((n:Int) / 256),bOf (n:Int)]:=by
 have e1:((n:Int) % 256).toNat=n % 256:=by omega
 have e2:((n:Int) / 256 % 256).toNat=n / 256 % 256:=by omega
 unfold bOf;rw [e1,e2];rfl
def fv (k p a b q f:Nat):List (Nat×Nat×Nat):=[(129,1,k),(130,1,p),(131,4,a),(132,4,b),(133,1,q),(136,2,f)]
theorem headT_fv {k p a b q f:Nat} {data:List UInt8} (hf:f < 65536):qIl ⟨(k:Int),(p:Int),(a:Int),(b:Int),(f:Int),(q:Int),data⟩=(fv k p a b q f).map fun x=>.mk (x.1:Int) (qAw x.2.1 x.2.2) []:=by
 simp only [qIl,fv,List.map_cons,List.map_nil,octB_one,octB_two hf,Int.toNat_natCast]
 rfl
theorem objP_spec (t:Tpl) (hv:qDu t=0):Spec Tryz.prog 271 [tAV t] [] (fun r h'=>r=nAV (qJl t)∧h'=[]):=by
 have ok:=validT_ok hv
 obtain ⟨kind,part,frm,til,fmt,qual,data⟩:=t
 simp only at ok
 obtain ⟨kind,rfl⟩:∃ n:Nat,kind=(n:Int):=⟨kind.toNat,by omega⟩
 obtain ⟨part,rfl⟩:∃ n:Nat,part=(n:Int):=⟨part.toNat,by omega⟩
 obtain ⟨frm,rfl⟩:∃ n:Nat,frm=(n:Int):=⟨frm.toNat,by omega⟩
 obtain ⟨til,rfl⟩:∃ n:Nat,til=(n:Int):=⟨til.toNat,by omega⟩
 obtain ⟨fmt,rfl⟩:∃ n:Nat,fmt=(n:Int):=⟨fmt.toNat,by omega⟩
 obtain ⟨qual,rfl⟩:∃ n:Nat,qual=(n:Int):=⟨qual.toNat,by omega⟩
 have hF:=qWx
 have hcl:=qOt (qAj data) (by rw [encB_length];omega)
 have hhd:=headT_fv (k:=kind) (p:=part) (a:=frm) (b:=til) (q:=qual) (f:=fmt) (data:=data) (by omega)
 generalize hL:fv kind part frm til qual fmt=L at hhd
 have hLl:L.length=6:=by rw [← hL];rfl
 have hV:([[.int .i64 (kind:Int)],[.int .i64 (part:Int)],[.int .i64 (frm:Int)],[.int .i64 (til:Int)],[.int .i64 (qual:Int)],[.int .i64 (fmt:Int)]]:List (List Dat))=L.map fun x=>[Dat.int .i64 (x.2.2:Int)]:=by rw [← hL];rfl
 have hFl:vEa=L.map fun x=>[Dat.int .i64 (x.1:Int),Dat.int .i64 (x.2.1:Int)]:=by rw [← hL];rfl
 have hok:∀ x∈L,x.2.1≤7∧x.2.2 < 256 ^ x.2.1:=fun x hx=>by
  rw [← hL] at hx
  simp only [fv,List.mem_cons,List.not_mem_nil,or_false] at hx
  rcases hx with rfl | rfl | rfl | rfl | rfl | rfl <;> simp only <;> omega
 rw [hFl] at hF
 unfold qJl
 rw [hhd]
 unfold tAV qNf
 simp only
 generalize hN:(L.map fun x=>Node.mk (x.1:Int) (qAw x.2.1 x.2.2) [])=N
 have hNl:N.length=6:=by rw [← hN];simp [hLl]
 have hel:=encNs_length N
 refine qAb hT Tryz.func271 rfl rfl rfl rfl ?_;intro E hE
 refine ww ?_
 rw [hV]
 have hEl:(L.map fun x=>[Dat.int .i64 (x.2.2:Int)]).length=6:=by simp [hLl]
 refine qAo (qBy 2 2 3 3 rfl rfl rfl ?_)
 refine qBg (ι:=Nat) (fun i=>[(1,.ptr 0 0),(2,.ptr 1 0),(3,.ptr 2 0),(22,.d (.sl 1 (L.map fun x=>[Dat.int .i64 (x.2.2:Int)]))),(23,.I 6),(24,.I (i:Int))])
  (fun i=>[.row [.I (kind:Int),.I (part:Int),.I (frm:Int),.I (til:Int),.I (fmt:Int),.I (qual:Int),.d (.sl 1 (qAj data))],.row [.I 0,.sl 1 [] .full,.sl 3 [] .full],
   .row [.I 161,.sl 1 [] .full,.sl 3 (encNs (N.take i)) (.right 3)],.right 3 (encNs (N.take i)).length])
  (fun i=>i≤6) (fun i=>6-i) 0 (by omega) ⟨.refl _,.refl _,.refl _,.dat,.int (by rw [hEl];rfl),.refl _,trivial⟩ (HLe.refl _) ?_
 intro i hi
 have hwr:IntKind.i64.wrap ((i:Int)+1)=((i+1:Nat):Int):=by rw [qAe (by omega)];simp
 refine ww ?_
 refine qAa rfl (fun c2=>?_) (fun c2=>?_)
 ·have c2':i < 6:=by have h3:(i:Int) < 6:=(by simpa using c2);omega
  have hiL:i < L.length:=by omega
  obtain ⟨⟨tg,m,v⟩,hget⟩:∃ x,L[i]?=some x:=⟨L[i],List.getElem?_eq_getElem hiL⟩
  obtain ⟨hm,hvv⟩:=hok _ (List.mem_of_getElem? hget)
  simp only at hm hvv
  have hO:=qDn v m hm hvv
  have he1:(L.map fun x=>[Dat.int .i64 (x.2.2:Int)])[((i:Int)).toNat]?=some [.int .i64 (v:Int)]:=by rw [Int.toNat_natCast,List.getElem?_map,hget];rfl
  have he2:(L.map fun x=>[Dat.int .i64 (x.1:Int),Dat.int .i64 (x.2.1:Int)])[((i:Int)).toNat]?=some [.int .i64 (tg:Int),.int .i64 (m:Int)]:=by rw [Int.toNat_natCast,List.getElem?_map,hget];rfl
  have hNi:N[i]?=some (.mk (tg:Int) (qAw m v) []):=by rw [← hN,List.getElem?_map,hget];rfl
  have htk:encNs (N.take (i+1))=encNs (N.take i)++[qIc (.mk (tg:Int) (qAw m v) [])]:=by
   rw [List.take_add_one,hNi,encNs_append];rfl
  have hnl:(encNs (N.take i)).length=i:=by rw [encNs_length,List.length_take];omega
  generalize (L.map fun x=>[Dat.int .i64 (x.2.2:Int)])=V1 at he1 ⊢
  generalize (L.map fun x=>[Dat.int .i64 (x.1:Int),Dat.int .i64 (x.2.1:Int)])=V2 at he2 hF
  refine ww ?_
  refine wwi he1 ?_
  refine ww ?_
  refine wwc hF ?_
  refine ww ?_
  refine wwi he2 ?_
  refine ww ?_
  refine wwc hO ?_
  refine ww ?_
  refine qAd (qAh (i:=3) hT rfl rfl rfl rfl rfl rfl (by show ((encNs (N.take i)).length+1)*(56+1)≤_;omega)) rfl ?_
  refine ww ?_
  refine ⟨i+1,[_],by omega,by omega,⟨.refl _,.refl _,.refl _,.refl _,.refl _,.int hwr,trivial⟩,⟨.refl _,.refl _,ObLe.row (by rw [htk];rfl),⟨rfl,congrArg List.length htk.symm⟩,.refl _,trivial⟩,Env.below_mono hE (by simp),rfl,rfl⟩
 ·have c2':i=6:=by have h3:¬ (i:Int) < 6:=(by simpa using c2);omega
  subst c2'
  rw [List.take_of_length_le (by omega)]
  refine wwn ?_
  refine qAp (l:=[(1,.ptr 0 0),(2,.ptr 1 0),(3,.ptr 2 0)]) (h':=[.row [.I (kind:Int),.I (part:Int),.I (frm:Int),.I (til:Int),.I (fmt:Int),.I (qual:Int),.d (.sl 1 (qAj data))],.row [.I 0,.sl 1 [] .full,.sl 3 [] .full],.row [.I 161,.d (.sl 1 []),.d (.sl 3 (encNs N))],.dead]) yf ⟨.refl _,.refl _,⟨.refl _,.dat,.dat,trivial⟩,trivial,trivial⟩ ?_
  refine qBp (fun i=>bif Nat.beq i 0 then [2] else bif Nat.beq i 2 then [0] else bif Nat.beq i 7 then [1] else []) (fun i=>bif Nat.beq i 7 then [1] else []) mixed (by kernel_rfl) ?_
  refine wwg ?_
  refine wwdc hcl ?_
  refine wwg ?_
  refine qAk (os:=[]) (fun k hk1 hk2=>buildSl_ok hT rfl rfl) rfl ?_
  refine wwg ?_
  refine ww ?_
  exact wwr
def PredT (g:FuncId) (first cap:List AV) (H:List AObj) (p:Tpl→Bool) (l:List Tpl):Prop :=
 ∀ c,c∈l→Spec Tryz.prog g (first++([tAV c]++cap)) H (fun r h'=>r=.d (.bool (p c))∧h'=H)
theorem qOr {l:List Tpl} {g:FuncId} {first cap:List AV} {H:List AObj} {p:Tpl→Bool} (hp:PredT g first cap H p l) (hH:qEg H.length H=true) (h1:qCo H.length first=true) (h2:qCo H.length cap=true) (hl:l.length≤1000000000) :
  Spec Tryz.prog 341 [.d (.sl 7 (qJi l)),.fn (.func g) first cap] H (fun r h'=>r=.I (qQi p l)∧h'=H):=by
 refine qAb hT Tryz.func341 rfl rfl rfl rfl ?_
 intro E hE
 have hlen:=encTs_length l
 refine ww ?_
 refine qAq (ι:=Nat) (fun k=>[(0,.d (.sl 7 (qJi l))),(1,.fn (.func g) first cap),(7,.d (.int .i64 (qJi l).length)),(8,.I k)]) (fun _=>H) (fun k=>k≤l.length∧∀ j,(hj:j < k)→(hj2:j < l.length)→p l[j]=false) (fun k=>l.length-k) 0
  ⟨by omega,fun j hj=>by omega⟩ yf (HLe.refl _) ?_
 intro k ⟨hk,hb⟩
 refine ww ?_
 refine qAa rfl (fun h1'=>?_) (fun h1'=>?_)
 ·have hlt:k < l.length:=by rw [hlen] at h1';simpa using h1'
  have hel:=encTs_at hlt
  have hpk:=hp l[k] (List.getElem_mem hlt)
  generalize hc:l[k]=c at hel hpk
  obtain ⟨c1,c2,c3,c4,c5,c6,c7⟩:=c
  unfold vMt at hel
  simp only at hel
  refine ww ?_
  refine qAd (qAc (indexAddr_ok hT rfl rfl rfl rfl (by omega) hel)) rfl ?_
  refine ww ?_
  refine qCr (qGc (Q:=fun r h'=>r=.d (.bool (p ⟨c1,c2,c3,c4,c5,c6,c7⟩))∧h'=H) rfl rfl (hpk.mono (fun r h' ⟨q1,q2⟩=>⟨⟨q1,q2⟩,by rw [q1];rfl,by rw [q2];exact hH⟩)) hH rfl ?_) rfl ?_
  ·have:∀ (a b:List AV),qCo H.length a=true→qCo H.length b=true→qCo H.length (a++b)=true:=by
    intro a
    induction a with
    | nil=>intro b _ hb;exact hb
    | cons x a ih=>intro b ha hb;simp only [qCo,Bool.and_eq_true,List.cons_append] at ha ⊢;exact ⟨ha.1,ih b ha.2 hb⟩
   exact this _ _ h1 (this [_] _ (by simp [qCo,low,tAV,qNf]) h2)
  rintro v h' ⟨rfl,rfl⟩
  refine ww ?_
  refine qAa rfl (fun h2'=>?_) (fun h2'=>?_)
  ·refine ww ?_
   refine qAg rfl (.refl _) (by simp) rfl rfl hH ⟨?_,rfl⟩
   show AV.d (.int .i64 (k:Int))=_
   rw [fIdx_at hlt (by rw [hc];exact h2') (fun j hj hj2=>hb j hj hj2)]
  ·refine ww ?_
   refine ⟨k+1,⟨by omega,fun j hj hj2=>?_⟩,by omega,⟨.refl _,.refl _,.refl _,AV.le.eq ?_,trivial⟩,HLe.refl _⟩
   ·by_cases hjk:j=k
    ·subst hjk;rw [hc];exact h2'
    ·exact hb j (by omega) hj2
   ·show AV.d (.int .i64 (IntKind.i64.wrap ((k:Int)+1)))=_
    rw [qAe (by omega)];rfl
 ·have hge:k=l.length:=by rw [hlen] at h1';simp at h1';omega
  refine ww ?_
  refine qAg rfl (.refl _) (by simp) rfl rfl hH ⟨?_,rfl⟩
  show AV.d (.int .i64 (-1))=_
  rw [fIdx_none (fun j hj=>hb j (by omega) hj)]
theorem qKw {l:List Tpl} {g:FuncId} {first cap:List AV} {H:List AObj} {p:Tpl→Bool} (hp:PredT g first cap H p l) (hH:qEg H.length H=true) (h1:qCo H.length first=true) (h2:qCo H.length cap=true) (hl:l.length≤1000000000) :
  Spec Tryz.prog 272 [.d (.sl 7 (qJi l)),.fn (.func g) first cap] H (fun r h'=>r=.d (.bool (l.any p))∧h'=H):=by
 refine qAb hT Tryz.func272 rfl rfl rfl rfl ?_
 intro E hE
 have hs:=qOr hp hH h1 h2 hl
 refine ww ?_
 refine qCr (qGc (Q:=fun r h'=>r=.I (qQi p l)∧h'=H) rfl rfl (hs.mono (fun r h' ⟨q1,q2⟩=>⟨⟨q1,q2⟩,by rw [q1];rfl,by rw [q2];exact hH⟩)) hH rfl ?_) rfl ?_
 ·simp [qCo,low,h1,h2]
 rintro v h' ⟨rfl,rfl⟩
 refine ww ?_
 refine qAg rfl (.refl _) (by simp) rfl rfl hH ⟨?_,rfl⟩
 show AV.d (.bool (decide (qQi p l≥0)))=_
 rw [fIdx_any]
theorem qWs (n:Int) (hn : -9223372036854775807≤n∧n≤9223372036854775807) (x:Tpl):Spec Tryz.prog 273 ([]++([tAV x]++[.ptr 0 0])) [.row [.I n]] (fun r h'=>r=.d (.bool (x.kind != n-1))∧h'=[.row [.I n]]):=by
 obtain ⟨c1,c2,c3,c4,c5,c6,c7⟩:=x
 unfold tAV qNf
 simp only
 have hwn:IntKind.i64.wrap (n-1)=n-1:=qAe (by omega)
 refine qAb hT Tryz.func273 rfl rfl rfl rfl ?_;intro E hE
 refine qAo ?_
 refine wwe ?_
 refine qAl (qAf ?_)
 refine qAd (boxAt_ok (i0:=1) rfl rfl rfl) rfl ?_
 refine ww ?_
 rw [hwn]
 exact qAg rfl (.refl _) rfl rfl rfl rfl ⟨rfl,rfl⟩
theorem vAn (n:Int) (hn : -9223372036854775807≤n∧n≤9223372036854775807) (l:List Tpl) (hl:l.length≤1000000):Spec Tryz.prog 177 [.I n,.d (.sl 7 (qJi l))] [] (fun r h'=>r=.d (.bool (qWw n l))∧h'=[]):=by
 have c1:=qKw (p:=fun x=>x.kind != n-1) (l:=l) (fun x hx=>qWs n hn x) rfl rfl rfl (by omega)
 have hf:qWw n l=!(l.any fun x=>x.kind != n-1):=by
  unfold qWw
  rw [List.not_any_eq_all_not]
  congr 1
  funext x
  rw [Bool.eq_iff_iff];simp
 rw [hf]
 generalize (l.any fun x=>x.kind != n-1)=b at c1
 refine qAb hT Tryz.func177 rfl rfl rfl rfl ?_;intro E hE
 refine qAo ?_
 refine wwe ?_
 refine qAl (qAf ?_)
 refine qAd (boxAt_ok (i0:=0) rfl rfl rfl) rfl ?_
 refine ww ?_
 refine qAd (qGd rfl rfl (c1) [0] (by decide) rfl rfl rfl rfl rfl rfl rfl) rfl ?_
 refine ww ?_
 exact wwr
theorem qPi (n:Int):Spec Tryz.prog 175 [.I n] [] (fun r h'=>r=.d (.bool (decide (n≥2)&&decide (n≤4)))∧h'=[]):=by
 refine qAb hT Tryz.func175 rfl rfl rfl rfl ?_;intro E hE
 refine ww ?_
 exact wwr
theorem encTR_eq (l:List Tpl):qJj l=if qRv l≠0 then ([],qRv l) else ([.mk 32609 [] (qMh l)],0):=by
 unfold qJj qRv
 by_cases h:l.length < 1∨l.length > 8
 ·rw [if_pos h,if_pos h,if_pos (by decide)]
 ·rw [if_neg h,if_neg h]
theorem chkTs_valid {l:List Tpl} (h:qRv l=0):1≤l.length∧l.length≤8∧qFb l=0:=by
 unfold qRv at h
 split at h
 ·omega
 ·exact ⟨by omega,by omega,h⟩
theorem firstT_get:∀ {l:List Tpl},qFb l=0→∀ {i:Nat} (hi:i < l.length),qDu l[i]=0
 | [],_,_,hi=>by simp at hi
 | t::l,h,i,hi=>by
  rw [qFb] at h
  have hv:qDu t=0:=by
   by_cases hv:qDu t=0
   ·exact hv
   ·rw [if_pos hv] at h;exact h
  rw [if_neg (by simp [hv])] at h
  cases i with
  | zero=>exact hv
  | succ i=>exact firstT_get h (by simpa using hi)
theorem encTP_spec (l:List Tpl) (hl:l.length≤1000000):Spec Tryz.prog 176 [.d (.sl 7 (qJi l))] [] (fun r h'=>r=.tup [.d (.sl 3 (encNs (qJj l).1)),.d (.int .i64 (qJj l).2)]∧h'=[]):=by
 have hll:=encTs_length l
 have hc:=checkT_spec l hl
 have hcv:=@chkTs_valid l
 rw [encTR_eq]
 generalize qRv l=e at hc hcv
 refine qAb hT Tryz.func176 rfl rfl rfl rfl ?_;intro E hE
 refine ww ?_
 refine wwc hc ?_
 refine ww ?_
 refine qAa rfl (fun c1=>?_) (fun c1=>?_)
 ·have c1':e≠0:=by simpa using c1
  rw [if_pos c1']
  refine ww ?_
  exact wwr
 have c1':e=0:=by simpa using c1
 obtain ⟨g1,g2,g3⟩:=hcv c1'
 subst c1'
 rw [if_neg (by simp)]
 have hb1:encNs [.mk 2 [bOf (l.length:Int)] []]=[[Dat.int .i64 2,.sl 1 [[.int .u8 (IntKind.u8.wrap (l.length:Int))]],.sl 3 []]]:=by rw [bOf_wrap];rfl
 refine ww ?_
 refine qAo (qBy 0 2 1 3 rfl rfl rfl ?_)
 refine qBg (ι:=Nat) (fun i=>[(20,.d (.sl 7 (qJi l))),(5,.ptr 0 0),(21,.I (l.length:Int)),(22,.I (i:Int))])
  (fun i=>[.row [.I 32609,.sl 1 [] .full,.sl 3 (encNs (.mk 2 [bOf (l.length:Int)] []::(l.take i).map qJl)) (.right 1)],.right 3 (encNs (.mk 2 [bOf (l.length:Int)] []::(l.take i).map qJl)).length])
  (fun i=>i≤l.length) (fun i=>l.length-i) 0 (by omega) ⟨.refl _,.refl _,.int (by rw [hll]),.refl _,trivial⟩ ⟨ObLe.row (by rw [hll];show _=[_,_,AV.sl 3 (encNs [.mk 2 [bOf (l.length:Int)] []]) (.right 1)];rw [hb1];rfl),⟨rfl,rfl⟩,trivial⟩ ?_
 intro i hi
 have hwr:IntKind.i64.wrap ((i:Int)+1)=((i+1:Nat):Int):=by rw [qAe (by omega)];simp
 have hkl:(encNs (.mk 2 [bOf (l.length:Int)] []::(l.take i).map qJl)).length≤9:=by rw [encNs_length];simp;omega
 refine ww ?_
 refine qAa rfl (fun c2=>?_) (fun c2=>?_)
 ·have c2':i < l.length:=by have h3:(i:Int) < (l.length:Int):=(by simpa using c2);omega
  have hel:=encTs_at c2'
  have htk:encNs (.mk 2 [bOf (l.length:Int)] []::(l.take (i+1)).map qJl)=encNs (.mk 2 [bOf (l.length:Int)] []::(l.take i).map qJl)++[qIc (qJl l[i])]:=by
   rw [List.take_succ_eq_append_getElem c2',List.map_append]
   show encNs ((.mk 2 [bOf (l.length:Int)] []::(l.take i).map qJl)++[qJl l[i]])=_
   rw [encNs_append];rfl
  have ho:=objP_spec l[i] (firstT_get g3 c2')
  generalize l[i]=t at hel ho htk
  generalize encNs (.mk 2 [bOf (l.length:Int)] []::(l.take i).map qJl)=ks at hkl htk ⊢
  unfold tAV qNf at ho
  refine ww ?_
  refine wwi hel ?_
  refine wwn ?_
  show AW Tryz.prog E _ _ _ _ _
  refine qBp (fun i=>bif Nat.beq i 1 then [0] else bif Nat.beq i 2 then [2] else bif Nat.beq i 5 then [1] else bif Nat.beq i 7 then [0] else []) (fun i=>bif Nat.beq i 5 then [1] else bif Nat.beq i 7 then [0] else []) mixed (by kernel_rfl) ?_
  refine wwg ?_
  refine wwdc ho ?_
  refine wwg ?_
  refine qAk (os:=[]) (fun k hk1 hk2=>buildSl_ok hT rfl rfl) rfl ?_
  refine qAk (v:=.sl 3 (ks++[qIc (qJl t)]) (.right 1)) (os:=[.right 3 (ks++[qIc (qJl t)]).length]) (fun k hk1 hk2=>qAh (i:=1) hT rfl rfl rfl rfl ((hk2 1 List.mem_cons_self).trans rfl) rfl (by show (ks.length+1)*(56+1)≤_;omega)) rfl ?_
  refine wwg ?_
  refine ww ?_
  refine ⟨i+1,[_],by omega,by omega,⟨.refl _,.refl _,.refl _,.int hwr,trivial⟩,⟨ObLe.row (by rw [htk]),⟨rfl,congrArg List.length htk.symm⟩,.refl _,trivial⟩,Env.below_mono hE (by simp),rfl,rfl⟩
 ·have c2':i=l.length:=by have h3:¬ (i:Int) < (l.length:Int):=(by simpa using c2);omega
  subst c2'
  rw [List.take_length]
  show AW Tryz.prog E _ _ _ _ _
  refine qAp (l:=[(5,.ptr 0 0)]) (h':=[.row [.I 32609,.d (.sl 1 []),.d (.sl 3 (encNs (qMh l)))],.dead]) yf ⟨⟨.refl _,.dat,.dat,trivial⟩,trivial,trivial⟩ ?_
  refine ww ?_
  exact wwr
theorem vLm (t:Tpl):(wrL (qIl t)).length≤100:=by
 unfold qIl
 have h1:=wrL_cons_length 129 [bOf t.kind] [] [.mk 130 [bOf t.part] [],.mk 131 (qAw 4 t.frm.toNat) [],.mk 132 (qAw 4 t.til.toNat) [],.mk 133 [bOf t.qual] [],.mk 136 [bOf (t.fmt / 256),bOf t.fmt] []]
 have h2:=wrL_cons_length 130 [bOf t.part] [] [.mk 131 (qAw 4 t.frm.toNat) [],.mk 132 (qAw 4 t.til.toNat) [],.mk 133 [bOf t.qual] [],.mk 136 [bOf (t.fmt / 256),bOf t.fmt] []]
 have h3:=wrL_cons_length 131 (qAw 4 t.frm.toNat) [] [.mk 132 (qAw 4 t.til.toNat) [],.mk 133 [bOf t.qual] [],.mk 136 [bOf (t.fmt / 256),bOf t.fmt] []]
 have h4:=wrL_cons_length 132 (qAw 4 t.til.toNat) [] [.mk 133 [bOf t.qual] [],.mk 136 [bOf (t.fmt / 256),bOf t.fmt] []]
 have h5:=wrL_cons_length 133 [bOf t.qual] [] [.mk 136 [bOf (t.fmt / 256),bOf t.fmt] []]
 have h6:=wrL_cons_length 136 [bOf (t.fmt / 256),bOf t.fmt] [] []
 have h0:(wrL ([]:List Node)).length=0:=rfl
 simp only [List.length_cons,List.length_nil,octB_length] at *
 omega
theorem vMv (t:Tpl) (r:List Node) (hv:qDu t=0):(wrL (qJl t::r)).length≤2000+(wrL r).length:=by
 have ok:=validT_ok hv
 unfold qJl
 have h1:=wrL_cons_length 32608 [] [.mk 161 [] (qIl t),.mk 24366 t.data []] r
 have h2:=wrL_cons_length 161 [] (qIl t) [.mk 24366 t.data []]
 have h3:=wrL_cons_length 24366 t.data [] []
 have h4:=vLm t
 have h0:(wrL ([]:List Node)).length=0:=rfl
 simp only [List.length_nil] at *
 omega
theorem vIp:∀ (l:List Tpl),qFb l=0→(wrL (l.map qJl)).length≤l.length*2000
 | [],_=>by show (0:Nat)≤_;omega
 | t::l,h=>by
  have hv:=firstT_get h (i:=0) (by simp)
  have hl:qFb l=0:=by
   rw [qFb,if_neg (by show ¬ qDu t≠0;exact fun hh=>hh hv)] at h;exact h
  have h1:=vMv t (l.map qJl) hv
  have h2:=vIp l hl
  simp only [List.map_cons,List.length_cons]
  omega
theorem vMw (l:List Tpl):(wrL (qJj l).1).length≤100000:=by
 have h0:(wrL ([]:List Node)).length=0:=rfl
 rw [encTR_eq]
 by_cases hc:qRv l=0
 ·rw [if_neg (by simp [hc])]
  obtain ⟨g1,g2,g3⟩:=chkTs_valid hc
  have h1:=vIp l g3
  have h2:=wrL_cons_length 32609 [] (qMh l) []
  have h3:=wrL_cons_length 2 [bOf (l.length:Int)] [] (l.map qJl)
  unfold qMh at h2 ⊢
  simp only [List.length_nil,List.length_singleton] at *
  omega
 ·rw [if_pos hc]
  simp only [h0];omega
theorem bioP_spec (n:Int) (hn : -9223372036854775807≤n∧n≤9223372036854775807) (l:List Tpl) (hl:l.length≤1000000):Spec Tryz.prog 94 [.I n,.d (.sl 7 (qJi l))] [] (fun r h'=>r=.tup [.d (.sl 1 (qAj (vBd n l).1)),.d (.int .i64 (vBd n l).2)]∧h'=[]):=by
 have he:=encTP_spec l hl
 have hft:=vAn n hn l hl
 have hbm:=qPi n
 obtain ⟨f1,f2,f3⟩:=encTR_fit l
 have hw:=qGv n (by omega) (qJj l).1 (by omega) f1 (by omega) (by have:=vMw l;omega)
 unfold vBd
 generalize qJj l=q at he hw
 obtain ⟨k,e⟩:=q
 simp only at he hw ⊢
 generalize qWw n l=ft at hft
 generalize qEf n k=w at hw
 obtain ⟨w,we⟩:=w
 simp only at hw ⊢
 generalize encNs k=ks at he hw
 generalize qJi l=ts at he hft
 refine qAb hT Tryz.func94 rfl rfl rfl rfl ?_;intro E hE
 refine ww ?_
 refine wwc hbm ?_
 refine ww ?_
 refine qAa rfl (fun c1=>?_) (fun c1=>?_)
 ·have c1':¬ (n≥2∧n≤4):=by simp only [Bool.not_eq_true',Bool.and_eq_false_iff,decide_eq_false_iff_not] at c1;omega
  rw [if_pos (by omega)]
  refine ww ?_
  exact wwr
 have c1':¬ (n < 2∨n > 4):=by simp only [Bool.not_eq_false',Bool.and_eq_true,decide_eq_true_eq] at c1;omega
 rw [if_neg c1']
 refine ww ?_
 refine wwc he ?_
 refine ww ?_
 refine qAa rfl (fun c2=>?_) (fun c2=>?_)
 ·have c2':e≠0:=by simpa using c2
  rw [if_pos c2']
  refine ww ?_
  exact wwr
 have c2':¬ e≠0:=by simpa using c2
 rw [if_neg c2']
 refine ww ?_
 refine wwc hft ?_
 refine ww ?_
 refine qAa rfl (fun c3=>?_) (fun c3=>?_)
 ·have c3':ft=false:=by simpa using c3
  rw [if_pos c3']
  refine ww ?_
  exact wwr
 have c3':¬ ft=false:=by simpa using c3
 rw [if_neg c3']
 refine ww ?_
 refine wwc hw ?_
 refine ww ?_
 exact wwr
theorem qXr (l:List Int) (v:Int) (hl:l.length≤1000000):Spec Tryz.prog 267 [.d (.sl 1 (qOc l)),.I v] [] (fun r h'=>r=.I (qQi (fun x=>v == x) l)∧h'=[]):=by
 have hlen:(qOc l).length=l.length:=by simp [qOc]
 refine qAb hT Tryz.func267 rfl rfl rfl rfl ?_;intro E hE
 refine ww ?_
 refine qAq (ι:=Nat) (fun k=>[(0,.d (.sl 1 (qOc l))),(1,.I v),(7,.I ((qOc l).length:Int)),(8,.I (k:Int))]) (fun _=>[]) (fun k=>k≤l.length∧∀ j,(hj:j < k)→(hj2:j < l.length)→(v == l[j])=false) (fun k=>l.length-k) 0
  ⟨by omega,fun j hj=>by omega⟩ yf (HLe.refl _) ?_
 rintro k ⟨hk,hb⟩
 have hwr:IntKind.i64.wrap ((k:Int)+1)=((k+1:Nat):Int):=by rw [qAe (by omega)];omega
 refine ww ?_
 refine qAa rfl (fun c1=>?_) (fun c1=>?_)
 ·have hlt:k < l.length:=by rw [hlen] at c1;simpa using c1
  have hel:(qOc l)[((k:Int)).toNat]?=some [.int .i64 l[k]]:=by simp [qOc,hlt]
  generalize hc:l[k]=c at hel
  refine ww ?_
  refine wwi hel ?_
  refine ww ?_
  refine qAa rfl (fun c2=>?_) (fun c2=>?_)
  ·refine ww ?_
   refine qAg rfl (.refl _) rfl rfl rfl rfl ⟨?_,rfl⟩
   show AV.d (.int .i64 (k:Int))=_
   rw [fIdx_at (p:=fun x=>v == x) hlt (by rw [hc];exact c2) (fun j hj hj2=>hb j hj hj2)]
  ·refine ww ?_
   refine ⟨k+1,⟨by omega,fun j hj hj2=>?_⟩,by omega,⟨.refl _,.refl _,.refl _,.int hwr,trivial⟩,HLe.refl _⟩
   by_cases hjk:j=k
   ·subst hjk;rw [hc];exact c2
   ·exact hb j (by omega) hj2
 ·have hge:k=l.length:=by rw [hlen] at c1;simp at c1;omega
  refine ww ?_
  refine qAg rfl (.refl _) rfl rfl rfl rfl ⟨?_,rfl⟩
  show AV.d (.int .i64 (-1))=_
  rw [fIdx_none (p:=fun x=>v == x) (fun j hj=>hb j (by omega) hj)]
theorem qPn (l:List Int) (v:Int) (hl:l.length≤1000000):Spec Tryz.prog 171 [.d (.sl 1 (qOc l)),.I v] [] (fun r h'=>r=.d (.bool (l.any fun x=>v == x))∧h'=[]):=by
 have hs:=qXr l v hl
 rw [← fIdx_any]
 generalize qQi (fun x=>v == x) l=k at hs
 refine qAb hT Tryz.func171 rfl rfl rfl rfl ?_;intro E hE
 refine ww ?_
 refine wwc hs ?_
 refine ww ?_
 exact wwr
end Tdoc
namespace Tdoc
open Go
open Go Go.Proofs
theorem qNy (p:Int) (hp:2≤p∧p≤6):Spec Tryz.prog 290 [.I p] [] (fun r h'=>r=.d (.sl 1 (qAj (idB p)))∧h'=[]):=by
 have hp':p=2∨p=3∨p=4∨p=5∨p=6:=by omega
 rcases hp' with rfl | rfl | rfl | rfl | rfl
 all_goals
  refine qAb hT Tryz.func290 rfl rfl rfl rfl ?_;intro E hE
  refine qAo ?_
  refine wwn ?_
  refine qBp (fun i=>bif Nat.beq i 0 then [0] else bif Nat.beq i 1 then [0] else []) (fun i=>bif Nat.beq i 0 then [0] else bif Nat.beq i 1 then [0] else []) mixed (by kernel_rfl) ?_
  refine qAk (os:=[.opq (cbR [4,0,127,0,7,2,2])]) (fun k hk1 hk2=>buildCB_ok hT rfl rfl ((hk2 0 List.mem_cons_self).trans rfl)) rfl ?_
  refine qAk (os:=[.dead]) (fun k hk1 hk2=>markCB_ok hT rfl rfl rfl ((hk2 0 List.mem_cons_self).trans rfl) rfl) rfl ?_
  refine wwg ?_
  refine qIs (arrAddr_ok hT rfl rfl rfl rfl (by decide)) rfl rfl ?_
  refine qIs (arrAddr_ok hT rfl rfl rfl rfl (by decide)) rfl rfl ?_
  refine wwg ?_
  refine qIs (arrAddr_ok hT rfl rfl rfl rfl (by decide)) rfl rfl ?_
  refine qIs (arrAddr_ok hT rfl rfl rfl rfl (by decide)) rfl rfl ?_
  refine wwg ?_
  refine qAk (os:=[]) (fun k hk1 hk2=>buildSl_ok hT rfl rfl) rfl ?_
  refine qAk (os:=[]) (fun k hk1 hk2=>qCz hT rfl rfl rfl (.inl rfl) rfl (by decide)) rfl ?_
  refine wwg ?_
  refine ww ?_
  exact wwr
theorem numberP_spec (n:Int):Spec Tryz.prog 291 [.I n] [] (fun r h'=>r=.agg ((qIc (.mk 2 [bOf n] [])).map .d)∧h'=[]):=by
 have e:qIc (.mk 2 [bOf n] [])=[Dat.int .i64 2,.sl 1 [[.int .u8 (IntKind.u8.wrap n)]],.sl 3 []]:=by rw [bOf_wrap];rfl
 rw [e]
 refine qAb hT Tryz.func291 rfl rfl rfl rfl ?_;intro E hE
 refine ww ?_
 exact qAg (r:=.agg [.I 2,.d (.sl 1 [[.int .u8 (IntKind.u8.wrap n)]]),.d (.sl 3 [])]) rfl (AV.le.agg ⟨.refl _,AV.le.dat,AV.le.dat,trivial⟩) rfl rfl rfl rfl ⟨rfl,rfl⟩
theorem objIP_spec (x:Inf) (hv:infE x=0):Spec Tryz.prog 189 [.agg (qQj x)] [] (fun r h'=>r=nAV (qKp x)∧h'=[]):=by
 have hE0:(2≤x.proto∧x.proto≤6)∧(x.proto=4→qDj x.key=true):=by
  unfold infE at hv
  split at hv
  ·exact absurd hv (by decide)
  split at hv
  ·exact absurd hv (by decide)
  split at hv
  ·exact absurd hv (by decide)
  rename_i h1 h2 h3
  refine ⟨by omega,fun h=>?_⟩
  cases hh:qDj x.key with
  | true=>rfl
  | false=>exact absurd (.inl ⟨h,hh⟩) h3
 obtain ⟨p,v,q,k,d⟩:=x
 simp only at hE0
 have hid:=qNy p hE0.1
 have hnv:=numberP_spec v
 have hnq:=numberP_spec q
 have hnd:=numberP_spec d
 have hm:=qNr p
 have hge:=qGf k
 unfold qKp qQj
 simp only
 unfold nAV
 have e0:∀ r:List Node,qIc (.mk 48 [] ([.mk 6 (idB p) [],.mk 2 [bOf v] []]++r))=[Dat.int .i64 48,.sl 1 [],.sl 3 ([[Dat.int .i64 6,.sl 1 (qAj (idB p)),.sl 3 []],qIc (.mk 2 [bOf v] [])]++encNs r)]:=fun r=>rfl
 rw [e0]
 have ev:qIc (.mk 2 [bOf v] [])=[Dat.int .i64 2,.sl 1 (qAj [bOf v]),.sl 3 []]:=rfl
 have eq:qIc (.mk 2 [bOf q] [])=[Dat.int .i64 2,.sl 1 (qAj [bOf q]),.sl 3 []]:=rfl
 have ed:qIc (.mk 2 [bOf d] [])=[Dat.int .i64 2,.sl 1 (qAj [bOf d]),.sl 3 []]:=rfl
 rw [ev] at hnv ⊢
 rw [eq] at hnq
 rw [ed] at hnd
 refine qAb hT Tryz.func189 rfl rfl rfl rfl ?_;intro E hE
 refine qAo ?_
 refine wwn ?_
 refine qBp (fun i=>bif Nat.beq i 1 then [1] else bif Nat.beq i 5 then [1] else bif Nat.beq i 9 then [0] else bif Nat.beq i 10 then [0] else []) (fun i=>bif Nat.beq i 9 then [0] else bif Nat.beq i 10 then [0] else []) mixed (by kernel_rfl) ?_
 refine wwg ?_
 refine wwdc hid ?_
 refine wwg ?_
 refine wwdc hnv ?_
 refine wwg ?_
 refine qAk (os:=[]) (fun k hk1 hk2=>buildSl_ok hT rfl rfl) rfl ?_
 refine wwg ?_
 refine qAk (v:=.ptr 0 0) (os:=[.row [.I 0,.sl 1 [] .full,.sl 3 [] .full]]) (fun kk hk1 hk2=>allocAt_ok (i0:=0) (i:=⟨.struct [(0,1,false),(1,1,false),(2,1,false)],3,56,[.I 0,.sl 1 [] .full,.sl 3 [] .full]⟩) hT rfl rfl ((hk2 0 List.mem_cons_self).trans rfl)) rfl ?_
 refine wwg ?_
 refine ww ?_
 refine wwc hm ?_
 refine ww ?_
 show AW Tryz.prog E _ _ _ _ _
 generalize idB p=ib
 refine qAp (l:=[(1,.ptr 1 0),(2,.ptr 2 0),(3,.ptr 0 0),(15,.d (.bool (p == 2||p == 3)))]) (h':=[.row [.I 48,.sl 1 [] .full,.sl 3 [[.int .i64 6,.sl 1 (qAj ib),.sl 3 []],[.int .i64 2,.sl 1 (qAj [bOf v]),.sl 3 []]] .full],.row [.I p,.I v,.I q,.I k,.I d],.row [.I 0,.sl 1 [] .full,.sl 3 [] .full]]) yf (HLe.refl _) ?_
 refine qAo (qBy 0 2 3 3 rfl rfl rfl ?_)
 refine qAa rfl (fun c1=>?_) (fun c1=>?_)
 ·have c1':p=2∨p=3:=by simpa using c1
  rw [if_pos c1']
  show AW Tryz.prog E _ _ _ _ _
  refine qBp (fun i=>bif Nat.beq i 1 then [0] else bif Nat.beq i 3 then [1] else bif Nat.beq i 6 then [3] else bif Nat.beq i 8 then [0] else []) (fun i=>bif Nat.beq i 6 then [3] else bif Nat.beq i 8 then [0] else []) mixed (by kernel_rfl) ?_
  refine wwg ?_
  refine wwdc hnq ?_
  refine wwg ?_
  refine qAk (os:=[]) (fun k hk1 hk2=>buildSl_ok hT rfl rfl) rfl ?_
  refine qAk (v:=.sl 3 [[.int .i64 6,.sl 1 (qAj ib),.sl 3 []],[.int .i64 2,.sl 1 (qAj [bOf v]),.sl 3 []],[.int .i64 2,.sl 1 (qAj [bOf q]),.sl 3 []]] (.right 3)) (os:=[.right 3 3]) (fun k hk1 hk2=>qAh (i:=3) hT rfl rfl rfl rfl ((hk2 3 List.mem_cons_self).trans rfl) rfl (by show (2+1)*(56+1)≤140737488355328;omega)) rfl ?_
  refine wwg ?_
  show AW Tryz.prog E _ _ _ _ _
  refine qAp (l:=[(1,.ptr 1 0),(2,.ptr 2 0),(3,.ptr 0 0)]) (h':=[.row [.I 48,.d (.sl 1 []),.d (.sl 3 [[.int .i64 6,.sl 1 (qAj ib),.sl 3 []],[.int .i64 2,.sl 1 (qAj [bOf v]),.sl 3 []],[.int .i64 2,.sl 1 (qAj [bOf q]),.sl 3 []]])],.dead,.row [.I 0,.sl 1 [] .full,.sl 3 [] .full],.dead]) yf ⟨⟨.refl _,.dat,.dat,trivial⟩,trivial,.refl _,trivial,trivial⟩ ?_
  refine ww ?_
  exact wwr
 have c1':¬ (p=2∨p=3):=by simpa using c1
 rw [if_neg c1']
 refine ww ?_
 refine qAa rfl (fun c2=>?_) (fun c2=>?_)
 ·have c2':p=4:=by simpa using c2
  rw [if_pos c2']
  have hel:=hE0.2 c2'
  rw [hel,if_pos rfl,if_pos rfl] at hge
  refine ww ?_
  refine wwc hge ?_
  refine wwn ?_
  show AW Tryz.prog E _ _ _ _ _
  refine qBp (fun i=>bif Nat.beq i 1 then [0] else bif Nat.beq i 5 then [1] else bif Nat.beq i 8 then [3] else bif Nat.beq i 10 then [0] else []) (fun i=>bif Nat.beq i 8 then [3] else bif Nat.beq i 10 then [0] else []) mixed (by kernel_rfl) ?_
  refine wwg ?_
  refine wwdc hnd ?_
  refine wwg ?_
  refine qAk (os:=[]) (fun k hk1 hk2=>buildSl_ok hT rfl rfl) rfl ?_
  refine qAk (v:=.sl 3 [[.int .i64 6,.sl 1 (qAj ib),.sl 3 []],[.int .i64 2,.sl 1 (qAj [bOf v]),.sl 3 []],[.int .i64 4,.sl 1 (qAj (qAw 4 k.toNat)),.sl 3 []],[.int .i64 2,.sl 1 (qAj [bOf d]),.sl 3 []]] (.right 3)) (os:=[.right 3 4]) (fun kk hk1 hk2=>qAh (i:=3) hT rfl rfl rfl rfl ((hk2 3 List.mem_cons_self).trans rfl) rfl (by show (2+2)*(56+1)≤140737488355328;omega)) rfl ?_
  refine wwg ?_
  show AW Tryz.prog E _ _ _ _ _
  refine qAp (l:=[(1,.ptr 1 0),(2,.ptr 2 0),(3,.ptr 0 0)]) (h':=[.row [.I 48,.d (.sl 1 []),.d (.sl 3 [[.int .i64 6,.sl 1 (qAj ib),.sl 3 []],[.int .i64 2,.sl 1 (qAj [bOf v]),.sl 3 []],[.int .i64 4,.sl 1 (qAj (qAw 4 k.toNat)),.sl 3 []],[.int .i64 2,.sl 1 (qAj [bOf d]),.sl 3 []]])],.dead,.row [.I 0,.sl 1 [] .full,.sl 3 [] .full],.dead]) yf ⟨⟨.refl _,.dat,.dat,trivial⟩,trivial,.refl _,trivial,trivial⟩ ?_
  refine ww ?_
  exact wwr
 ·have c2':¬ p=4:=by simpa using c2
  rw [if_neg c2']
  show AW Tryz.prog E _ _ _ _ _
  refine qAp (l:=[(1,.ptr 1 0),(2,.ptr 2 0),(3,.ptr 0 0)]) (h':=[.row [.I 48,.d (.sl 1 []),.d (.sl 3 [[.int .i64 6,.sl 1 (qAj ib),.sl 3 []],[.int .i64 2,.sl 1 (qAj [bOf v]),.sl 3 []]])],.dead,.row [.I 0,.sl 1 [] .full,.sl 3 [] .full],.dead]) yf ⟨⟨.refl _,.dat,.dat,trivial⟩,trivial,.refl _,trivial,trivial⟩ ?_
  refine ww ?_
  exact wwr
end Tdoc
