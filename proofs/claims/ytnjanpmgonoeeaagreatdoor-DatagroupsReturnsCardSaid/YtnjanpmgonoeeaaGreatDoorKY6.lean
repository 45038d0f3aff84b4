/- The texts RE OF OG OH XV O1 O2 O3 XP O4 O5 O6 O7 O8 O9 OB OC OD ZK RF: each says at its head what it shows. Part 6 of the proof; no conditions beyond the theorems' own. -/
import Derived.Test.YtnjanpmgonoeeaaGreatDoorKY5
import Derived.Test.YtnjanpmgonoeeaaGreatDoorKY3
import Derived.Test.YtnjanpmgonoeeaaGreatDoorKY4
import Derived.Test.YtnjanpmgonoeeaaGreatDoorKY2
import Derived.Test.YtnjanpmgonoeeaaGreatDoorKY1
set_option linter.unusedVariables false
set_option linter.unusedSimpArgs false
namespace Tdoc
open Go
theorem vApx {a b:List UInt8} (h1:validS a=true) (h2:validS b=true):validS (a++b)=true:=validS_mem.2 fun c hc=>by
 rcases List.mem_append.1 hc with hc | hc
 ·exact validS_mem.1 h1 c hc
 ·exact validS_mem.1 h2 c hc
theorem vFill (n:Nat):validS (List.replicate n 60)=true:=validS_mem.2 fun c hc=>by rw [List.eq_of_mem_replicate hc];decide
theorem vWide {s:List UInt8} (n:Nat) (h:validS s=true):validS (wideS s n)=true:=vApx h (vFill _)
theorem dig_ok {s:List UInt8} (h:validS s=true):(digitF s).1.length=1∧validS (digitF s).1=true:=by
 rw [qCh h]
 refine ⟨rfl,?_⟩
 have hr:=digSum_range 0 s h
 have hm:0≤digSum 0 s % 10∧digSum 0 s % 10 < 10:=by omega
 show validS [UInt8.ofNat (48+digSum 0 s % 10).toNat]=true
 generalize digSum 0 s % 10=d at hm
 have hb:bI (UInt8.ofNat (48+d).toNat)=48+d:=by unfold bI;rw [toNat_ofNat (by omega)];omega
 simp only [validS,hb,Bool.and_true,decide_eq_true_eq]
 unfold valC
 rw [if_pos (by omega)]
 omega
theorem chk_ok {s:List UInt8} (h:validS s=true):(checkedS s).length=s.length+1∧validS (checkedS s)=true:=by
 obtain ⟨h1,h2⟩:=dig_ok h
 unfold checkedS
 exact ⟨by rw [List.length_append,h1],vApx h h2⟩
theorem num_ok {s:List UInt8} (h:validS s=true):(numberS s).1.length=10∧validS (numberS s).1=true∧(numberS s).2.length=(if s.length > 9 then s.length-9+2 else 0)∧validS (numberS s).2=true:=by
 unfold numberS
 by_cases h9:s.length≤9
 ·rw [if_pos h9,if_neg (by omega)]
  obtain ⟨a,b⟩:=chk_ok (vWide 9 h)
  refine ⟨?_,b,rfl,rfl⟩
  show (checkedS (wideS s 9)).length=10
  rw [a,qAt]
  omega
 ·rw [if_neg h9,if_pos (by omega)]
  obtain ⟨a,b⟩:=dig_ok h
  refine ⟨by simp;omega,vApx (validS_tk 9 h) (vFill 1),by simp [a],vApx (vApx (validS_drop 9 h) b) (vFill 1)⟩
theorem namesW_len {s g:List UInt8} {w:Int} (h1:nameL true s=true) (h2:nameL true g=true) (h3:s≠[]) (hw:1≤w∧w≤64):((namesF s g w).1.length:Int)=w:=by
 unfold namesF
 rw [if_neg (by simp [h1,h2,h3]),if_neg (by omega)]
 simp only [List.length_take,qAt]
 omega
theorem table_valid:(∀ s,s∈kindT→validS s=true)∧(∀ s,s∈stateT→validS s=true)∧(∀ s,s∈sexT→validS s=true):=by decide
theorem parts_len {a b c:List UInt8} {n:Nat} (ha:a.length=n) (hb:b.length=n) (hc:c.length=n):cutS (a++(b++c)) 0 n=a∧cutS (a++(b++c)) n (n+n)=b∧cutS (a++(b++c)) (n+n) (n+n+n)=c:=by
 subst ha
 refine ⟨by unfold cutS;simp,?_,?_⟩
 ·rw [cutS_eq,List.drop_left,show a.length+a.length-a.length=b.length by omega,List.take_left]
 ·rw [cutS_eq,show a.length+a.length=a.length+b.length by omega,← List.drop_drop,List.drop_left,List.drop_left,List.take_of_length_le (by omega)]
theorem zone_lines {z:Zon} (h:ZMade z):(zoneF z).2=0∧((zoneO (zoneF z).1).2=0→buildF (zoneO (zoneF z).1).1=(buildZ z,0)):=by
 have hv:=made_valid h
 have zo:=validZ_ok hv
 obtain ⟨tk,ts,tx⟩:=table_valid
 have v1:=tk _ h.kind
 have v2:=ts _ h.state
 have v3:=ts _ h.nat
 have v4:=tx _ h.sex
 obtain ⟨w1,w2⟩:=chk_ok zo.bir.2
 obtain ⟨w3,w4⟩:=chk_ok zo.exp.2
 obtain ⟨u1,u2,u3,u4⟩:=num_ok zo.num.2.2
 have hf:=zo.fmt
 have hsx:=zo.sex
 have hk2:=zo.kind
 have hs3:=zo.state
 have hn3:=zo.nat
 have hop:=zo.opt
 have hse:=zo.sec
 have hwb:=zo.bir.1
 have hwe:=zo.exp.1
 have hnw:1≤nameW z.fmt∧nameW z.fmt≤64:=by unfold nameW;split <;> (try split) <;> omega
 have hnl:=namesW_len h.sur.1.1 h.giv.1 h.sur.2 hnw
 have hz:zoneF z=wrapG 1 [.mk 24351 (buildZ z).flatten []]:=by unfold zoneF;rw [if_neg (by rw [hv];simp)]
 have key:∀ flat:List UInt8,flat=(buildZ z).flatten→flat.length≤200→((zoneT flat).2=0→buildF (zoneT flat).1=(buildZ z,0))→(zoneF z).2=0∧((zoneO (zoneF z).1).2=0→buildF (zoneO (zoneF z).1).1=(buildZ z,0)):=by
  intro flat hfl hlen hT
  rw [hz,← hfl]
  obtain ⟨p1,p2,p3⟩:=wrap_open (n:=1) (k:=[.mk 24351 flat []]) (by omega) (by omega) (by
   refine chkL_of fun m hm=>?_
   rw [List.mem_singleton.1 hm]
   exact qDg (by decide) (by decide) (by omega)) (by simp [sizeL,sizeN]) (by
   have b:=qAf 24351 flat [] []
   have h0:(wrL ([]:List Node)).length=0:=rfl
   omega)
  refine ⟨p1,?_⟩
  unfold zoneO
  rw [openZ_of p3 (by omega) (by omega)]
  simp only
  rw [if_neg (by simp)]
  unfold zoneL
  simp only
  rw [if_pos (by simp [primF])]
  exact hT
 clear hz
 by_cases f1:z.fmt=1
 ·have hro:roomF z=15-(if z.num.length > 9 then (z.num.length:Int)-9+2 else 0):=by unfold roomF;rw [if_pos f1]
  have hb:buildZ z=[wideS z.kind 2++wideS z.state 3++(numberS z.num).1++wideS ((numberS z.num).2++z.opt) 15,
    (checkedS z.bir++z.sex++checkedS z.exp++wideS z.nat 3++wideS z.sec 11)++(digitF (cutS (wideS z.kind 2++wideS z.state 3++(numberS z.num).1++wideS ((numberS z.num).2++z.opt) 15) 5 30++cutS (checkedS z.bir++z.sex++checkedS z.exp++wideS z.nat 3++wideS z.sec 11) 0 7++cutS (checkedS z.bir++z.sex++checkedS z.exp++wideS z.nat 3++wideS z.sec 11) 8 15++cutS (checkedS z.bir++z.sex++checkedS z.exp++wideS z.nat 3++wideS z.sec 11) 18 29)).1,
    (namesF z.sur z.giv (nameW z.fmt)).1]:=by unfold buildZ;rw [if_pos f1]
  have hu:(numberS z.num).2.length+z.opt.length≤15:=by
   have h8:=hop.1
   rw [hro] at h8
   rw [u3]
   by_cases h9:z.num.length > 9
   ·rw [if_pos h9] at h8 ⊢;omega
   ·rw [if_neg h9] at h8 ⊢;omega
  have ha:(wideS z.kind 2++wideS z.state 3++(numberS z.num).1++wideS ((numberS z.num).2++z.opt) 15).length=30:=by
   simp only [List.length_append,qAt,u1]
   omega
  have hva:validS (wideS z.kind 2++wideS z.state 3++(numberS z.num).1++wideS ((numberS z.num).2++z.opt) 15)=true:=vApx (vApx (vApx (vWide 2 v1) (vWide 3 v2)) u2) (vWide 15 (vApx u4 hop.2))
  have hb9:(checkedS z.bir++z.sex++checkedS z.exp++wideS z.nat 3++wideS z.sec 11).length=29:=by simp only [List.length_append,qAt,w1,w3];omega
  have hvb:validS (checkedS z.bir++z.sex++checkedS z.exp++wideS z.nat 3++wideS z.sec 11)=true:=vApx (vApx (vApx (vApx w2 v4) w4) (vWide 3 v3)) (vWide 11 hse.2)
  generalize wideS z.kind 2++wideS z.state 3++(numberS z.num).1++wideS ((numberS z.num).2++z.opt) 15=a at hb ha hva
  generalize checkedS z.bir++z.sex++checkedS z.exp++wideS z.nat 3++wideS z.sec 11=b0 at hb hb9 hvb
  obtain ⟨d1,d2⟩:=dig_ok (s:=cutS a 5 30++cutS b0 0 7++cutS b0 8 15++cutS b0 18 29) (vApx (vApx (vApx (qAr 5 30 hva) (qAr 0 7 hvb)) (qAr 8 15 hvb)) (qAr 18 29 hvb))
  generalize (digitF (cutS a 5 30++cutS b0 0 7++cutS b0 8 15++cutS b0 18 29)).1=dg at hb d1 d2
  have hlb:(b0++dg).length=30:=by rw [List.length_append];omega
  have hvbb:=vApx hvb d2
  generalize b0++dg=b at hb hlb hvbb
  have hlc:(namesF z.sur z.giv (nameW z.fmt)).1.length=30:=by
   have:nameW z.fmt=30:=by unfold nameW;rw [if_pos f1]
   rw [this] at hnl ⊢;omega
  generalize (namesF z.sur z.giv (nameW z.fmt)).1=c at hb hlc
  obtain ⟨q1,q2,q3⟩:=parts_len ha hlb hlc
  refine key (a++(b++c)) (by rw [hb];simp) (by simp only [List.length_append];omega) ?_
  unfold zoneT
  rw [if_pos (by simp only [List.length_append];omega),q1,q2,q3,hb]
  unfold parseZ
  have hsh:shapeF [a,b,c]=1:=by unfold shapeF;simp [ha,hlb,hlc]
  rw [hsh,if_neg (by omega)]
  by_cases hal:[a,b,c].all validS=false
  ·rw [if_pos hal];intro hh;exact absurd hh (by simp)
  rw [if_neg hal]
  exact back_card ha hlb hlc ⟨hva,hvbb⟩
 by_cases f2:z.fmt=2
 ·have hro:roomF z=7-(if z.num.length > 9 then (z.num.length:Int)-9+2 else 0):=by unfold roomF;rw [if_neg f1,if_pos f2]
  have hb:buildZ z=[wideS z.kind 2++wideS z.state 3++(namesF z.sur z.giv (nameW z.fmt)).1,
    ((numberS z.num).1++wideS z.nat 3++checkedS z.bir++z.sex++checkedS z.exp++wideS ((numberS z.num).2++z.opt) 7)++(digitF (cutS ((numberS z.num).1++wideS z.nat 3++checkedS z.bir++z.sex++checkedS z.exp++wideS ((numberS z.num).2++z.opt) 7) 0 10++cutS ((numberS z.num).1++wideS z.nat 3++checkedS z.bir++z.sex++checkedS z.exp++wideS ((numberS z.num).2++z.opt) 7) 13 20++cutS ((numberS z.num).1++wideS z.nat 3++checkedS z.bir++z.sex++checkedS z.exp++wideS ((numberS z.num).2++z.opt) 7) 21 35)).1]:=by
   unfold buildZ;rw [if_neg f1,if_pos f2]
  have hlc:(namesF z.sur z.giv (nameW z.fmt)).1.length=31:=by
   have:nameW z.fmt=31:=by unfold nameW;rw [if_neg f1,if_pos f2]
   rw [this] at hnl ⊢;omega
  have ha:(wideS z.kind 2++wideS z.state 3++(namesF z.sur z.giv (nameW z.fmt)).1).length=36:=by simp only [List.length_append,qAt,hlc];omega
  have hu:(numberS z.num).2.length+z.opt.length≤7:=by
   have h8:=hop.1
   rw [hro] at h8
   rw [u3]
   by_cases h9:z.num.length > 9
   ·rw [if_pos h9] at h8 ⊢;omega
   ·rw [if_neg h9] at h8 ⊢;omega
  have hb9:((numberS z.num).1++wideS z.nat 3++checkedS z.bir++z.sex++checkedS z.exp++wideS ((numberS z.num).2++z.opt) 7).length=35:=by
   simp only [List.length_append,qAt,u1,w1,w3]
   omega
  have hvb:validS ((numberS z.num).1++wideS z.nat 3++checkedS z.bir++z.sex++checkedS z.exp++wideS ((numberS z.num).2++z.opt) 7)=true:=vApx (vApx (vApx (vApx (vApx u2 (vWide 3 v3)) w2) v4) w4) (vWide 7 (vApx u4 hop.2))
  generalize wideS z.kind 2++wideS z.state 3++(namesF z.sur z.giv (nameW z.fmt)).1=a at hb ha
  generalize (numberS z.num).1++wideS z.nat 3++checkedS z.bir++z.sex++checkedS z.exp++wideS ((numberS z.num).2++z.opt) 7=b0 at hb hb9 hvb
  obtain ⟨d1,d2⟩:=dig_ok (s:=cutS b0 0 10++cutS b0 13 20++cutS b0 21 35) (vApx (vApx (qAr 0 10 hvb) (qAr 13 20 hvb)) (qAr 21 35 hvb))
  generalize (digitF (cutS b0 0 10++cutS b0 13 20++cutS b0 21 35)).1=dg at hb d1 d2
  have hlb:(b0++dg).length=36:=by rw [List.length_append];omega
  generalize b0++dg=b at hb hlb
  obtain ⟨q1,q2,_⟩:=parts_len ha hlb hlb
  have q1:cutS (a++b) 0 36=a:=by unfold cutS;rw [← ha];simp
  have q2:cutS (a++b) 36 72=b:=by rw [cutS_eq,← ha,List.drop_left,List.take_of_length_le (by omega)]
  refine key (a++b) (by rw [hb];simp) (by simp only [List.length_append];omega) ?_
  unfold zoneT
  rw [if_neg (by simp only [List.length_append];omega),if_pos (by simp only [List.length_append];omega),q1,q2,hb]
  unfold parseZ
  have hsh:shapeF [a,b]=2:=by unfold shapeF;simp [ha,hlb]
  rw [hsh,if_neg (by omega)]
  by_cases hal:[a,b].all validS=false
  ·rw [if_pos hal];intro hh;exact absurd hh (by simp)
  rw [if_neg hal]
  have hal:[a,b].all validS=true:=by simpa using hal
  simp only [List.all_cons,List.all_nil,Bool.and_true,Bool.and_eq_true] at hal
  simp only
  rw [if_pos ha]
  exact back_small ha hlb hal
 ·have hn9:z.num.length≤9:=by
   have:=zo.num.2.1
   unfold mostN at this
   rw [if_neg f1,if_neg f2] at this
   omega
  have hro:roomF z=14:=by unfold roomF;rw [if_neg f1,if_neg f2,if_neg (by omega)];rfl
  have hb:buildZ z=[wideS z.kind 2++wideS z.state 3++(namesF z.sur z.giv (nameW z.fmt)).1,
    ((numberS z.num).1++wideS z.nat 3++checkedS z.bir++z.sex++checkedS z.exp++wideS z.opt 14++(if z.opt=[] then [60] else (digitF (wideS z.opt 14)).1))++(digitF (cutS ((numberS z.num).1++wideS z.nat 3++checkedS z.bir++z.sex++checkedS z.exp++wideS z.opt 14++(if z.opt=[] then [60] else (digitF (wideS z.opt 14)).1)) 0 10++cutS ((numberS z.num).1++wideS z.nat 3++checkedS z.bir++z.sex++checkedS z.exp++wideS z.opt 14++(if z.opt=[] then [60] else (digitF (wideS z.opt 14)).1)) 13 20++cutS ((numberS z.num).1++wideS z.nat 3++checkedS z.bir++z.sex++checkedS z.exp++wideS z.opt 14++(if z.opt=[] then [60] else (digitF (wideS z.opt 14)).1)) 21 43)).1]:=by
   unfold buildZ;rw [if_neg f1,if_neg f2]
  have hlc:(namesF z.sur z.giv (nameW z.fmt)).1.length=39:=by
   have:nameW z.fmt=39:=by unfold nameW;rw [if_neg f1,if_neg f2]
   rw [this] at hnl ⊢;omega
  have ha:(wideS z.kind 2++wideS z.state 3++(namesF z.sur z.giv (nameW z.fmt)).1).length=44:=by simp only [List.length_append,qAt,hlc];omega
  have hx:((numberS z.num).1++wideS z.nat 3++checkedS z.bir++z.sex++checkedS z.exp).length=28:=by simp only [List.length_append,qAt,u1,w1,w3];omega
  have hvx:validS ((numberS z.num).1++wideS z.nat 3++checkedS z.bir++z.sex++checkedS z.exp)=true:=vApx (vApx (vApx (vApx u2 (vWide 3 v3)) w2) v4) w4
  have hwo:(wideS z.opt 14).length=14:=by rw [qAt];have:=hop.1;omega
  have hvo:=vWide 14 hop.2
  obtain ⟨o1,o2⟩:=dig_ok hvo
  have hoo:(if z.opt=[] then [60] else (digitF (wideS z.opt 14)).1).length=1∧validS (if z.opt=[] then [60] else (digitF (wideS z.opt 14)).1)=true:=by
   split
   ·exact ⟨rfl,by decide⟩
   ·exact ⟨o1,o2⟩
  have hod:trimF (wideS z.opt 14)=[]→(if z.opt=[] then [60] else (digitF (wideS z.opt 14)).1)=[60]:=by
   intro ht
   rw [if_pos]
   rcases h.opt with ho | ⟨_,ho,_,_⟩
   ·exact ho
   ·obtain ⟨k,hk⟩:=trim_split (wideS z.opt 14)
    rw [ht,List.nil_append] at hk
    match hzo:z.opt with
    | []=>rfl
    | c::l =>
     exfalso
     have hc:c∈wideS z.opt 14:=by unfold wideS;rw [hzo];simp
     rw [hk] at hc
     have:=List.eq_of_mem_replicate hc
     rw [hzo,this] at ho
     simp [plainF] at ho
  generalize wideS z.kind 2++wideS z.state 3++(namesF z.sur z.giv (nameW z.fmt)).1=a at hb ha
  generalize (if z.opt=[] then [60] else (digitF (wideS z.opt 14)).1)=o at hb hoo hod
  generalize wideS z.opt 14=wo at hb hwo hvo hod
  generalize (numberS z.num).1++wideS z.nat 3++checkedS z.bir++z.sex++checkedS z.exp=x at hb hx hvx
  have hb9:(x++wo++o).length=43:=by simp only [List.length_append];omega
  have hvb:validS (x++wo++o)=true:=vApx (vApx hvx hvo) hoo.2
  have c1:cutS (x++wo++o) 28 42=wo:=by rw [cutS_eq,List.append_assoc,← hx,List.drop_left,show 42-x.length=wo.length by omega,List.take_left]
  have hxw:(x++wo).length=42:=by rw [List.length_append];omega
  have e42:(x++wo++o).drop 42=o:=by rw [← hxw,List.drop_left]
  have c2:cutS (x++wo++o) 42 43=o:=by rw [cutS_eq,e42,List.take_of_length_le (by have:=hoo.1;omega)]
  generalize x++wo++o=b0 at hb hb9 hvb c1 c2
  obtain ⟨d1,d2⟩:=dig_ok (s:=cutS b0 0 10++cutS b0 13 20++cutS b0 21 43) (vApx (vApx (qAr 0 10 hvb) (qAr 13 20 hvb)) (qAr 21 43 hvb))
  generalize (digitF (cutS b0 0 10++cutS b0 13 20++cutS b0 21 43)).1=dg at hb d1 d2
  have hlb:(b0++dg).length=44:=by rw [List.length_append];omega
  have c3:cutS (b0++dg) 28 42=wo:=by rw [← c1];unfold cutS;rw [List.take_append_of_le_length (by omega)]
  have c4:cutS (b0++dg) 42 43=o:=by rw [← c2];unfold cutS;rw [List.take_append_of_le_length (by omega)]
  generalize b0++dg=b at hb hlb c3 c4
  have q1:cutS (a++b) 0 44=a:=by unfold cutS;rw [← ha];simp
  have q2:cutS (a++b) 44 88=b:=by rw [cutS_eq,← ha,List.drop_left,List.take_of_length_le (by omega)]
  refine key (a++b) (by rw [hb];simp) (by simp only [List.length_append];omega) ?_
  unfold zoneT
  rw [if_neg (by simp only [List.length_append];omega),if_neg (by simp only [List.length_append];omega),if_pos (by simp only [List.length_append];omega),q1,q2,hb]
  unfold parseZ
  have hsh:shapeF [a,b]=3:=by unfold shapeF;simp [ha,hlb]
  rw [hsh,if_neg (by omega)]
  by_cases hal:[a,b].all validS=false
  ·rw [if_pos hal];intro hh;exact absurd hh (by simp)
  rw [if_neg hal]
  have hal:[a,b].all validS=true:=by simpa using hal
  simp only [List.all_cons,List.all_nil,Bool.and_true,Bool.and_eq_true] at hal
  simp only
  rw [if_neg (by omega)]
  exact back_book ha hlb hal (by rw [c3,c4];exact hod)
end Tdoc
namespace Tdoc
open Go Go.Proofs
theorem primW {d:Nat} {x:Node} (hw:WfN d x) {t n:Int} (ht:tagCons t=false) (hn:0≤n):primF x t n=true↔(tagN x=t∧((valN x).length:Int)=n):=by
 rw [primF_iff]
 constructor
 ·rintro ⟨h1,h2,h3⟩
  exact ⟨h1,by omega⟩
 ·rintro ⟨h1,h2⟩
  obtain ⟨t',v,k⟩:=x
  exact ⟨h1,hw.prim (by rw [show t'=t from h1];exact ht),.inr h2⟩
theorem protoF_vals (v:List UInt8):protoF v=0∨protoF v=2∨protoF v=3∨protoF v=4∨protoF v=5∨protoF v=6:=by
 unfold protoF
 repeat' split
 all_goals omega
theorem protoF_len {v:List UInt8} (h:protoF v≠0):v.length=9:=by
 unfold protoF at h
 repeat' split at h
 all_goals first | (rename_i hv;rw [hv];exact idB_length _) | exact absurd rfl h
def fldsF (p:Int):List (Int×Int×Nat):=if p=2∨p=3 then [(2,1,1),(2,1,2)] else if p=4 then [(2,1,1),(4,4,3),(2,1,4)] else [(2,1,1)]
def fldL:List (Int×Int×Nat)→List Node→List Int→Option (List Int)
 | [],_,o=>some o
 | f::fs,x::xs,o=>if tagN x=f.1∧((valN x).length:Int)=f.2.1 then fldL fs xs (o.set f.2.2 ((nbN (valN x):Nat):Int)) else none
 | _::_,[],_=>none
def infQ (p:Int) (l:List Node):Option (List Int):=if l.length≠(fldsF p).length then none else fldL (fldsF p) l [p,0,0,0,0]
def InfR (x:Node):Option (List Int)→Prop
 | none=>infX x=none
 | some o=>∃ a b c d e,o=[a,b,c,d,e]∧infX x=some ⟨a,b,c,d,e⟩
theorem infQ_ok {d:Nat} {v:List UInt8} {i:Node} {l:List Node} (hw:WfN d (.mk 48 v (i::l))) (hi:tagN i=6) (hl:l≠[]) :
  (protoF (valN i)=0→infX (.mk 48 v (i::l))=none)∧(protoF (valN i)≠0→InfR (.mk 48 v (i::l)) (infQ (protoF (valN i)) l)):=by
 obtain ⟨w,r,rfl⟩:∃ w r,l=w::r:=match l,hl with
  | w::r,_=>⟨w,r,rfl⟩
  | [],h=>absurd rfl h
 have hv:v=[]:=hw.cons rfl
 have hC:consF (.mk 48 v (i::w::r)) 48 (-1)=true:=consF_iff.2 ⟨rfl,hv,.inl (by decide)⟩
 have hwi:WfN (d+1) i:=hw.kids i (by simp)
 have hww:WfN (d+1) w:=hw.kids w (by simp)
 have hwr:∀ q,q∈r→WfN (d+1) q:=fun q hq=>hw.kids q (by simp [hq])
 have hk:kidN (.mk 48 v (i::w::r))=i::w::r:=rfl
 have h2:=primW hww (t:=2) (n:=1) rfl (by omega)
 generalize hx:(Node.mk 48 v (i::w::r))=x at hC hk
 refine ⟨fun h0=>?_,fun h0=>?_⟩
 ·by_cases h6:primF i 6 9=true
  ·by_cases hp:primF w 2 1=true
   ·rw [infX_go hC hk h6 hp,h0,infM_0]
   ·exact infX_n4 hk (by simpa using hp)
  ·exact infX_n3 hk (by simpa using h6)
 ·have h6:primF i 6 9=true:=(primW hwi rfl (by omega)).2 ⟨hi,by have:=protoF_len h0;omega⟩
  have hgo:=infX_go (r:=r) hC hk h6
  have hvals:=protoF_vals (valN i)
  generalize protoF (valN i)=p at h0 hgo hvals
  by_cases hp:primF w 2 1=true
  case neg =>
   have hn:infX x=none:=infX_n4 hk (by simpa using hp)
   have hnf:¬ (tagN w=2∧((valN w).length:Int)=1):=fun h=>hp (h2.2 h)
   have hQ:infQ p (w::r)=none:=by
    unfold infQ
    split
    ·rfl
    ·unfold fldsF
     split
     ·rw [fldL,if_neg hnf]
     ·split
      ·rw [fldL,if_neg hnf]
      ·rw [fldL,if_neg hnf]
   rw [hQ]
   exact hn
  have hpt:=h2.1 hp
  have hgo:=hgo hp
  by_cases h23:p=2∨p=3
  ·have hf:fldsF p=[(2,1,1),(2,1,2)]:=if_pos h23
   unfold infQ
   rw [hf]
   by_cases hr:r.length=1
   ·obtain ⟨q,rfl⟩:∃ q,r=[q]:=match r,hr with
     | [q],_=>⟨q,rfl⟩
    rw [infM_2 h23] at hgo
    have hq:=primW (hwr q (by simp)) (t:=2) (n:=1) rfl (by omega)
    rw [if_neg (by simp),fldL,if_pos hpt,fldL]
    by_cases hqt:tagN q=2∧((valN q).length:Int)=1
    ·rw [if_pos hqt,fldL]
     rw [if_pos (hq.2 hqt)] at hgo
     exact ⟨_,_,_,_,_,rfl,hgo⟩
    ·rw [if_neg hqt]
     rw [if_neg (fun h=>hqt (hq.1 h))] at hgo
     exact hgo
   ·rw [if_pos (by simp;omega)]
    rw [infM_2n h23 hr] at hgo
    exact hgo
  by_cases h4:p=4
  ·subst h4
   have hf:fldsF 4=[(2,1,1),(4,4,3),(2,1,4)]:=rfl
   unfold infQ
   rw [hf]
   by_cases hr:r.length=2
   ·obtain ⟨q,s,rfl⟩:∃ q s,r=[q,s]:=match r,hr with
     | [q,s],_=>⟨q,s,rfl⟩
    rw [infM_4] at hgo
    have hq:=primW (hwr q (by simp)) (t:=4) (n:=4) rfl (by omega)
    have hs:=primW (hwr s (by simp)) (t:=2) (n:=1) rfl (by omega)
    rw [if_neg (by simp),fldL,if_pos hpt,fldL]
    by_cases hqt:tagN q=4∧((valN q).length:Int)=4
    ·rw [if_pos hqt,fldL]
     by_cases hst:tagN s=2∧((valN s).length:Int)=1
     ·rw [if_pos hst,fldL]
      rw [if_pos ⟨hq.2 hqt,hs.2 hst⟩] at hgo
      exact ⟨_,_,_,_,_,rfl,hgo⟩
     ·rw [if_neg hst]
      rw [if_neg (fun h=>hst (hs.1 h.2))] at hgo
      exact hgo
    ·rw [if_neg hqt]
     rw [if_neg (fun h=>hqt (hq.1 h.1))] at hgo
     exact hgo
   ·rw [if_pos (by simp;omega)]
    rw [infM_4n hr] at hgo
    exact hgo
  ·have hf:fldsF p=[(2,1,1)]:=by unfold fldsF;rw [if_neg h23,if_neg h4]
   have h5:p≠0∧p≠2∧p≠3∧p≠4:=⟨h0,fun h=>h23 (.inl h),fun h=>h23 (.inr h),h4⟩
   unfold infQ
   rw [hf]
   by_cases hr:r=[]
   ·subst hr
    rw [infM_5 h5] at hgo
    rw [if_neg (by simp),fldL,if_pos hpt,fldL]
    exact ⟨_,_,_,_,_,rfl,hgo⟩
   ·have hrl:0 < r.length:=List.length_pos_iff.2 hr
    rw [if_pos (by simp;omega)]
    rw [infM_5n h5 hr] at hgo
    exact hgo
def flatF (fs:List (Int×Int×Nat)):List AV:=(fs.map fun f=>[AV.d (.int .i64 f.1),AV.d (.int .i64 f.2.1),AV.ptr 2 f.2.2]).flatten
theorem flatF_length:∀ fs:List (Int×Int×Nat),(flatF fs).length=fs.length*3
 | []=>rfl
 | f::fs=>by
  have:=flatF_length fs
  unfold flatF at this ⊢
  rw [List.map_cons,List.flatten_cons,List.length_append,this]
  show 3+fs.length*3=(fs.length+1)*3
  omega
theorem flatF_at:∀ (fs:List (Int×Int×Nat)) (j:Nat) (h:j < fs.length),((flatF fs).drop (0+j*3)).take 3=[AV.d (.int .i64 fs[j].1),AV.d (.int .i64 fs[j].2.1),AV.ptr 2 fs[j].2.2]
 | f::fs,0,_=>by simp [flatF]
 | f::fs,j+1,h=>by
  have:=flatF_at fs j (by simpa using h)
  unfold flatF at this ⊢
  rw [List.map_cons,List.flatten_cons,show 0+(j+1)*3=3+(0+j*3) by omega]
  rw [← List.drop_drop]
  simpa using this
end Tdoc
set_option maxHeartbeats 8000000
set_option maxRecDepth 100000
namespace Tdoc
open Go Go.Proofs
def intsG (o:List Int):List AV:=o.map fun z=>.d (.int .i64 z)
theorem numO_small {v:List UInt8} (h:v.length≤7):numO v=(((nbN v:Nat):Int),0):=by unfold numO;rw [if_neg (by omega)]
theorem fldsF_size (p:Int):∀ f,f∈fldsF p→f.2.1≤4∧f.2.2≤4∧1≤f.2.2:=by
 unfold fldsF
 split
 ·simp
 ·split
  ·simp
  ·simp
theorem store1E {P:Program} {E:Env} {T:Tr} {o:Oper} {ρ:Operand→AV} {h:List AObj} (hT:TOk P T) {t i off:Nat} {ti:TI} {x y:Operand} {cells:List AV} {vy:AV} (ho:o.op=.store t x y) (hx:ρ x=.ptr i off) (hyv:ρ y=vy) (hi:h[i]?=some (.row cells)) (hf:T.find t=some ti) (hsz:Nat.beq ti.size 1=true)
  (hs:scalarA vy=true) (hlt:off < cells.length):OpS P E o ρ h .any (h.set i (.row (cells.set off vy))):=by subst hyv;exact store1_ok hT ho hx hi hf hsz hs hlt
theorem lowL_intsG (k:Nat):∀ o:List Int,lowL k (intsG o)=true
 | []=>rfl
 | z::o=>lowL_intsG k o
theorem fldsF_len (p:Int):(fldsF p).length≤3:=by
 unfold fldsF
 split
 ·simp
 ·split
  ·simp
  ·simp
theorem infoP_spec {d:Nat} (x:Node) (hwf:WfN d x) (hw:wgtN x≤1000000):Spec Tryz.prog 162 [nAV x] [] (fun r h'=>∃ y:Inf×Bool,InfP x y∧r=.tup [.agg (fCells y.1),.d (.bool y.2)]∧h'=[]):=by
 obtain ⟨t,v,k⟩:=x
 rw [nAV_eq]
 have n1:t≠48→infX (.mk t v k)=none:=fun h=>infX_n1 (by
  cases hc:consF (.mk t v k) 48 (-1) with
  | false=>rfl
  | true=>exact absurd (consF_iff.1 hc).1 h)
 have n2:=infX_n2 (x:=.mk t v k)
 have n3:∀ i r,k=i::r→tagN i≠6→infX (.mk t v k)=none:=fun i r hk h=>by
  match r,hk with
  | [],hk=>exact n2 (by rw [hk];simp [kidN])
  | w::r,hk=>exact infX_n3 (by rw [hk];rfl) (by
    cases hc:primF i 6 9 with
    | false=>rfl
    | true=>exact absurd (primF_iff.1 hc).1 h)
 have hkl:=qAm k
 have hlk:=len_wgt k
 have hkk:k.length≤1000000:=by rw [wgtN] at hw;omega
 simp only [kidN] at n2
 by_cases ht:t=48
 case neg =>
  have hn:(t != 48)=true:=by simpa using ht
  refine qAb hT Tryz.func162 rfl rfl rfl rfl ?_;intro E hE
  refine qAo ?_
  refine wwe ?_
  refine qAu (qAn ?_)
  refine qAd (qCg (i0:=0) rfl rfl rfl) rfl ?_
  refine wwk hn ?_
  refine qAa rfl (fun c1=>?_) (fun c1=>?_)
  ·refine ww ?_
   exact rq ⟨(inf0,false),.none (n1 ht),rfl,rfl⟩ rfl (.refl _)
  ·exact absurd c1 (by rw [hn];simp)
 by_cases hk2:k.length < 2
 case pos =>
  have hn:(t != 48||decide (((encNs k).length:Int) < 2))=true:=by rw [hkl];simp;right;omega
  refine qAb hT Tryz.func162 rfl rfl rfl rfl ?_;intro E hE
  refine qAo ?_
  refine wwe ?_
  refine qAu (qAn ?_)
  refine qAd (qCg (i0:=0) rfl rfl rfl) rfl ?_
  refine wwk hn ?_
  refine qAa rfl (fun c1=>?_) (fun c1=>?_)
  ·refine ww ?_
   exact rq ⟨(inf0,false),.none (n2 hk2),rfl,rfl⟩ rfl (.refl _)
  ·exact absurd c1 (by rw [hn];simp)
 obtain ⟨ti,vi,ki,l,rfl,hl0⟩:∃ ti vi ki l,k=.mk ti vi ki::l∧l≠[]:=match k,hk2 with
  | .mk ti vi ki::w::r,_=>⟨ti,vi,ki,w::r,rfl,by simp⟩
  | [_],h=>absurd (by simp) h
  | [],h=>absurd (by simp) h
 have n3:=n3 _ _ rfl
 simp only [tagN] at n3
 have hel0:(encNs (.mk ti vi ki::l))[((0:Int)).toNat]?=some [.int .i64 ti,.sl 1 (encB vi),.sl 3 (encNs ki)]:=rfl
 have hvi:vi.length≤1000000:=by simp only [wgtN,wgtL] at hw;omega
 have hwl:wgtL l≤1000000:=by simp only [wgtN,wgtL] at hw;omega
 have hll:=qAm l
 have hl1:l.length≤1000000:=by have:=len_wgt l;omega
 have hdr:cutL (encNs (.mk ti vi ki::l)) 1 ((encNs (.mk ti vi ki::l)).length:Int)=encNs l:=by
  unfold cutL
  rw [List.take_of_length_le (by simp)]
  rfl
 have hl2:1≤(encNs (.mk ti vi ki::l)).length:=by rw [hkl];simp
 have hok:ti=6→(protoF vi=0→infX (.mk t v (.mk ti vi ki::l))=none)∧(protoF vi≠0→InfR (.mk t v (.mk ti vi ki::l)) (infQ (protoF vi) l)):=fun h=>by
  subst ht
  exact infQ_ok hwf h hl0
 have hno:∀ {y:Option (List Int)},InfR (.mk t v (.mk ti vi ki::l)) y→y=none→infX (.mk t v (.mk ti vi ki::l))=none:=fun h1 h2=>by subst h2;exact h1
 generalize hxx:(Node.mk t v (.mk ti vi ki::l))=xx at n1 n3 hok hno hwf
 refine qAb hT Tryz.func162 rfl rfl rfl rfl ?_;intro E hE
 refine qAo ?_
 refine wwe ?_
 refine qAu (qAn ?_)
 refine qAd (qCg (i0:=0) rfl rfl rfl) rfl ?_
 refine ww ?_
 refine wwgi hel0 ?_
 refine ww ?_
 refine qAa rfl (fun c1=>?_) (fun c1=>?_)
 ·have hn:infX xx=none:=by
   by_cases h6:ti=6
   ·exfalso
    have:(decide (((encNs (.mk ti vi ki::l)).length:Int) < 2))=false:=by rw [hkl];simp at hk2 ⊢;omega
    rw [this,ht,h6] at c1
    exact absurd c1 (by simp)
   ·exact n3 h6
  refine ww ?_
  exact rq ⟨(inf0,false),.none hn,rfl,rfl⟩ rfl (.refl _)
 have c1':ti=6:=by
  simp only [Bool.or_eq_false_iff] at c1
  simpa using c1.2
 obtain ⟨hok0,hok1⟩:=hok c1'
 refine ww ?_
 refine qAq (ι:=Nat) (fun k=>[(1,.ptr 0 0),(2,.ptr 1 0),(4,.ptr 2 0),(5,.d (.int .i64 (2+(k:Int))))]) (fun k=>[.row [.d (.int .i64 t),.d (.sl 1 (encB v)),.d (.sl 3 (encNs (.mk ti vi ki::l)))],.row [.d (.int .i64 0),.d (.int .i64 0),.d (.int .i64 0),.d (.int .i64 0),.d (.int .i64 0)],.row [.d (.int .i64 (pU vi k)),.d (.int .i64 0),.d (.int .i64 0),.d (.int .i64 0),.d (.int .i64 0)]])
  (fun k=>k≤5) (fun k=>5-k) 0 (by omega) ⟨.refl _,.refl _,.refl _,.refl _,trivial⟩ (HLe.refl _) ?_
 intro k hk
 have hwp:IntKind.i64.wrap (2+(k:Int)+1)=2+((k+1:Nat):Int):=by rw [qAe (by omega)];omega
 refine ww ?_
 refine qAa rfl (fun c2=>?_) (fun c2=>?_)
 ·have c2':k < 5:=by simp at c2;omega
  have hid:=identifier_spec (2+(k:Int)) (by omega)
  have hSm:=EqualB_spec vi (idB (2+(k:Int)))
  have hpu:pU vi (k+1)=if vi=idB (2+(k:Int)) then 2+(k:Int) else pU vi k:=rfl
  generalize idB (2+(k:Int))=ib at hid hSm hpu
  refine ww ?_
  refine wwi hel0 ?_
  refine ww ?_
  refine wwc hid ?_
  refine ww ?_
  refine wwc hSm ?_
  refine ww ?_
  refine qAa rfl (fun c3=>?_) (fun c3=>?_)
  ·have c3':vi=ib:=by simpa using c3
   rw [if_pos c3'] at hpu
   refine ww ?_
   exact ⟨k+1,by omega,by omega,⟨.refl _,.refl _,.refl _,.int hwp,trivial⟩,by rw [hpu];exact HLe.refl _⟩
  ·have c3':¬ vi=ib:=by simpa using c3
   rw [if_neg c3'] at hpu
   refine ww ?_
   exact ⟨k+1,by omega,by omega,⟨.refl _,.refl _,.refl _,.int hwp,trivial⟩,by rw [hpu];exact HLe.refl _⟩
 have c2':k=5:=by simp at c2;omega
 subst c2'
 rw [pU_eq]
 have hvals:=protoF_vals vi
 generalize protoF vi=p at hok0 hok1 hvals
 clear hk c2 hel0
 have hM:=mapped_spec p
 have hfz:=fldsF_size p
 have hfl:=fldsF_len p
 refine wwe ?_
 refine qAo ?_
 refine qAo ?_
 refine qAo ?_
 refine ww ?_
 refine qAd (qBt (i0:=3) hT rfl rfl rfl) rfl ?_
 refine wws ?_
 refine qBa (ι:=Nat×Nat×AObj×AObj×AObj) (fun i=>[(1,.ptr 0 0),(2,.ptr 1 0),(4,.ptr 2 0),(6,.row i.1 0 (fldsF p).length i.2.1)])
  (fun i=>[.row [.d (.int .i64 t),.d (.sl 1 (encB v)),.d (.sl 3 (encNs (.mk ti vi ki::l)))],.row [.d (.int .i64 0),.d (.int .i64 0),.d (.int .i64 0),.d (.int .i64 0),.d (.int .i64 0)],.row [.d (.int .i64 p),.d (.int .i64 0),.d (.int .i64 0),.d (.int .i64 0),.d (.int .i64 0)],i.2.2.1,i.2.2.2.1,i.2.2.2.2])
  (fun i=>p≠0∧i.1 < 6∧lowH 6 [i.2.2.1,i.2.2.2.1,i.2.2.2.2]=true∧∀ X0 X1 X2:AObj,[X0,X1,X2,i.2.2.1,i.2.2.2.1,i.2.2.2.2][i.1]?=some (.row (flatF (fldsF p)))) ?_ ?_
 ·refine ww ?_
  refine qAa rfl (fun d0=>?_) (fun d0=>?_)
  ·have d0':p=0:=by simpa using d0
   have hn:=hok0 d0'
   refine ww ?_
   exact rq ⟨(inf0,false),.none hn,rfl,rfl⟩ rfl (.refl _)
  have d0':p≠0:=by simpa using d0
  refine ww ?_
  refine wwc hM ?_
  refine ww ?_
  refine qAa rfl (fun d2=>?_) (fun d2=>?_)
  ·have d2':p=2∨p=3:=by simpa using d2
   have hf:fldsF p=[(2,1,1),(2,1,2)]:=if_pos d2'
   rw [hf]
   refine ww ?_
   refine qAd (qBt (i0:=4) hT rfl rfl rfl) rfl ?_
   refine qAz (appRows_ok (i0:=5) (n:=1) (m:=1) hT rfl rfl rfl rfl rfl rfl rfl rfl rfl (by decide) (by decide) rfl) rfl ?_
   intro cap hcap
   refine ww ?_
   exact ⟨(5,cap,_,_,_),⟨d0',show 5 < 6 by decide,rfl,fun _ _ _=>rfl⟩,⟨.refl _,.refl _,.refl _,.refl _,trivial⟩,HLe.refl _⟩
  have d2':¬ (p=2∨p=3):=by simpa using d2
  refine ww ?_
  refine qAa rfl (fun d4=>?_) (fun d4=>?_)
  ·have d4':p=4:=by simpa using d4
   have hf:fldsF p=[(2,1,1),(4,4,3),(2,1,4)]:=by rw [d4'];rfl
   rw [hf]
   refine ww ?_
   refine qAd (qBt (i0:=4) hT rfl rfl rfl) rfl ?_
   refine qAz (appRows_ok (i0:=5) (n:=1) (m:=2) hT rfl rfl rfl rfl rfl rfl rfl rfl rfl (by decide) (by decide) rfl) rfl ?_
   intro cap hcap
   refine ww ?_
   exact ⟨(5,cap,_,_,_),⟨d0',show 5 < 6 by decide,rfl,fun _ _ _=>rfl⟩,⟨.refl _,.refl _,.refl _,.refl _,trivial⟩,HLe.refl _⟩
  have d4':p≠4:=by simpa using d4
  have hf:fldsF p=[(2,1,1)]:=by unfold fldsF;rw [if_neg d2',if_neg d4']
  rw [hf]
  refine ww ?_
  exact ⟨(3,1,_,_,_),⟨d0',show 3 < 6 by decide,rfl,fun _ _ _=>rfl⟩,⟨.refl _,.refl _,.refl _,.refl _,trivial⟩,HLe.refl _⟩
 rintro ⟨ob,cap,A,B,C⟩ ⟨hp0,hob,hlow,hform⟩
 simp only at hform hob hlow ⊢
 have hok1:=hok1 hp0
 unfold infQ at hok1
 refine ww ?_
 have hd1:(encNs (.mk ti vi ki::l)).drop ((1:Int)).toNat=encNs l:=rfl
 rw [hd1]
 refine qAa rfl (fun c5=>?_) (fun c5=>?_)
 ·have c5':l.length≠(fldsF p).length:=by rw [hll] at c5;intro hh;rw [hh] at c5;simp at c5
  rw [if_pos c5'] at hok1
  refine ww ?_
  exact rq ⟨(inf0,false),.none hok1,rfl,rfl⟩ rfl (.refl _)
 have c5':l.length=(fldsF p).length:=by rw [hll] at c5;simp at c5;omega
 rw [if_neg (by omega)] at hok1
 generalize fldsF p=fs at hform hok1 c5' hfz hfl
 generalize hfin:fldL fs l [p,0,0,0,0]=fin at hok1
 refine ww ?_
 refine qBu (ι:=Nat×List Int) (fun x=>[(2,.ptr 1 0),(4,.ptr 2 0),(7,.d (.sl 3 (encNs l))),(79,.row ob 0 fs.length cap),(80,.d (.int .i64 (fs.length:Int))),(81,.d (.int .i64 (x.1:Int)))])
  (fun x=>[.row [.d (.int .i64 t),.d (.sl 1 (encB v)),.d (.sl 3 (encNs (.mk ti vi ki::l)))],.row [.d (.int .i64 0),.d (.int .i64 0),.d (.int .i64 0),.d (.int .i64 0),.d (.int .i64 0)],.row (intsG x.2),A,B,C])
  (fun x=>x.1≤fs.length∧x.2.length=5∧fldL (fs.drop x.1) (l.drop x.1) x.2=fin) (fun x=>fs.length-x.1) (0,[p,0,0,0,0]) ⟨by simp,rfl,by simpa using hfin⟩ ⟨.refl _,.refl _,.refl _,.refl _,.refl _,.refl _,trivial⟩ (HLe.refl _) ?_
 rintro ⟨j,out⟩ ⟨hj,hol,hg⟩
 simp only at hj hol hg ⊢
 have hwj:IntKind.i64.wrap ((j:Int)+1)=((j+1:Nat):Int):=by rw [qAe (by omega)];simp
 refine ww ?_
 refine qAa rfl (fun c6=>?_) (fun c6=>?_)
 ·have c6':j < fs.length:=by simpa using c6
  have hjl:j < l.length:=by omega
  have hdl:l.drop j=l[j]::l.drop (j+1):=List.drop_eq_getElem_cons hjl
  have hdf:fs.drop j=fs[j]::fs.drop (j+1):=List.drop_eq_getElem_cons c6'
  rw [hdl,hdf,fldL] at hg
  have helx:(encNs l)[((j:Int)).toNat]?=some (encN l[j]):=by rw [Int.toNat_natCast];simp [encNs_eq,hjl]
  have hfa:=flatF_at fs j c6'
  have hfj:=hfz fs[j] (List.getElem_mem c6')
  have hwx:=wgt_mem (List.getElem_mem hjl)
  have hlow3:j*3+3≤(flatF fs).length:=by rw [flatF_length];omega
  generalize l[j]=y at helx hg hwx
  generalize fs[j]=f at hg hfa hfj
  obtain ⟨tg,sz,pl⟩:=f
  obtain ⟨ty,vy,ky⟩:=y
  rw [encN] at helx
  replace hg:(if ty=tg∧((vy.length:Nat):Int)=sz then fldL (fs.drop (j+1)) (l.drop (j+1)) (out.set pl ((nbN vy:Nat):Int)) else none)=fin:=hg
  simp only at hfa hfj
  have hvl:=qAl vy
  refine ww ?_
  refine qAd (qAc (rowAddr_ok (sz:=3) hT rfl rfl rfl rfl (by omega))) rfl ?_
  refine qAd (qDj hT rfl rfl (hform _ _ _) (qCu rfl rfl (by show 0+j*3+3≤_;omega) hfa)) rfl ?_
  refine ww ?_
  refine wwi helx ?_
  refine ww ?_
  refine wwgi helx ?_
  refine ww ?_
  refine qAa rfl (fun c7=>?_) (fun c7=>?_)
  ·have c7':¬ (ty=tg∧((vy.length:Nat):Int)=sz):=by
    rintro ⟨e1,e2⟩
    rw [hvl,e1,e2] at c7
    simp at c7
   rw [if_neg c7'] at hg
   have hn:=hno hok1 hg.symm
   refine ww ?_
   exact rq ⟨(inf0,false),.none hn,rfl,rfl⟩ rfl (.refl _)
  have c7':ty=tg∧((vy.length:Nat):Int)=sz:=by
   simp only [Bool.or_eq_false_iff] at c7
   rw [hvl] at c7
   exact ⟨by simpa using c7.1,by simpa using c7.2⟩
  rw [if_pos c7'] at hg
  have hN:=NumberO_spec vy (by omega)
  rw [numO_small (by omega)] at hN
  have hpl:pl < (intsG out).length:=by simp [intsG,hol];omega
  refine wwn ?_
  refine qBg (fun i=>bif Nat.beq i 1 then [6] else bif Nat.beq i 12 then [2] else []) (fun i=>bif Nat.beq i 12 then [2] else []) mixed (by kernel_rfl) ?_
  refine wwg ?_
  refine qCb (qAi hT rfl rfl rfl rfl (by omega) helx) rfl rfl ?_
  refine wwg ?_
  refine wwdc hN ?_
  refine wwg ?_
  refine qAs (os:=[.row ((intsG out).set pl (.d (.int .i64 ((nbN vy:Nat):Int))))]) (fun k hk1 hk2=>store1E (vy:=.d (.int .i64 ((nbN vy:Nat):Int))) hT rfl rfl rfl ((hk2 2 List.mem_cons_self).trans rfl) rfl rfl rfl hpl) rfl ?_
  refine wwg ?_
  refine ww ?_
  exact ⟨(j+1,out.set pl ((nbN vy:Nat):Int)),[_],⟨c6',by simp [hol],hg⟩,by simp only;omega,⟨.refl _,.refl _,.refl _,.refl _,.refl _,.int hwj,trivial⟩,⟨ObLe.refl _,ObLe.refl _,by simp only [intsG,List.map_set];exact ObLe.refl _,ObLe.refl _,ObLe.refl _,ObLe.refl _,ObLe.refl _,trivial⟩,Env.below_mono hE (by simp),
   by simp [lowS,low,Nat.blt];omega,by simp only [lowH,lowO,lowL,low,lowL_intsG,Bool.true_and,Bool.and_eq_true] at hlow ⊢;simpa using hlow⟩
 ·have c6':j=fs.length:=by simp at c6;omega
  subst c6'
  rw [List.drop_length,fldL] at hg
  subst hg
  obtain ⟨a,b,c,d',e,rfl,hres⟩:=hok1
  refine ww ?_
  exact rq ⟨(⟨a,b,c,d',e⟩,true),.some hres,rfl,rfl⟩ rfl (.refl _)
end Tdoc
namespace Tdoc
open Go Go.Proofs
theorem DecodeP_spec (b:List UInt8) (hb:b.length≤9223372036854775807):Spec Tryz.prog 95 [.d (.sl 1 (encB b))] []
  (fun r h'=>r=.tup [.d (.sl 5 (encFs (decI b).1)),.d (.int .i64 (decI b).2)]∧h'=[]):=by
 have hps:=Parse_spec b true (by omega)
 have hgd:(parseX b true).2=0→(∀ x,x∈(parseX b true).1→WfN 1 x)∧wgtL (parseX b true).1≤1000000:=fun h=>by
  have hg:=parseX_good h
  refine ⟨?_,by omega⟩
  have hc:=hg.2.1
  generalize (parseX b true).1=l at hc
  intro x hx
  revert hc
  induction l with
  | nil=>cases hx
  | cons a l ih =>
   intro hc
   have hi:=chkL_inv hc
   rcases List.mem_cons.1 hx with h | h
   ·subst h;exact hi.1
   ·exact ih h hi.2
 rw [decI_eq]
 generalize parseX b true=q at hps hgd
 obtain ⟨l,e⟩:=q
 simp only at hps hgd ⊢
 by_cases h1:e=0
 case neg =>
  rw [if_pos h1]
  refine qAb hT Tryz.func95 rfl rfl rfl rfl ?_;intro E hE
  refine ww ?_
  refine wwc hps ?_
  refine ww ?_
  refine qAa rfl (fun c1=>?_) (fun c1=>?_)
  ·refine ww ?_
   exact wwr
  ·exact absurd (by simpa using c1) h1
 rw [if_neg (by omega)]
 obtain ⟨hwf,hwg⟩:=hgd h1
 subst h1
 have hlen:=qAm l
 by_cases h2:l.length=1
 case neg =>
  rw [decIL_many h2]
  have hn:(((encNs l).length:Int) != 1)=true:=by rw [hlen];simp;omega
  refine qAb hT Tryz.func95 rfl rfl rfl rfl ?_;intro E hE
  refine ww ?_
  refine wwc hps ?_
  refine ww ?_
  refine qAa rfl (fun c1=>?_) (fun c1=>?_)
  ·exact absurd c1 (by simp)
  refine wwk hn ?_
  refine qAa rfl (fun c2=>?_) (fun c2=>?_)
  ·refine ww ?_
   exact wwr
  ·rw [hn] at c2
   exact absurd c2 (by simp)
 obtain ⟨t,v,k,rfl⟩:∃ t v k,l=[.mk t v k]:=match l,h2 with
  | [.mk t v k],_=>⟨t,v,k,rfl⟩
 have hel:(encNs [.mk t v k])[((0:Int)).toNat]?=some [.int .i64 t,.sl 1 (encB v),.sl 3 (encNs k)]:=rfl
 have hn1:(((encNs [.mk t v k]).length:Int) != 1)=false:=rfl
 have hwk:wgtL k≤1000000:=by have h:=hwg;rw [wgtL,wgtN] at h;omega
 have hkl:=qAm k
 have hkw:=len_wgt k
 have hwx:=hwf (.mk t v k) (by simp)
 have hcv:consF (.mk t v k) 49 (-1)=decide (t=49):=by
  by_cases ht:t=49
  ·subst ht
   rw [decide_eq_true rfl]
   exact consF_iff.2 ⟨rfl,hwx.cons rfl,.inl (by decide)⟩
  ·rw [decide_eq_false ht]
   cases hc:consF (.mk t v k) 49 (-1) with
   | false=>rfl
   | true=>exact absurd (consF_iff.1 hc).1 ht
 unfold decIL
 simp only [kidN]
 rw [hcv]
 by_cases ht:t=49
 case neg =>
  rw [if_neg (by simpa using ht)]
  refine qAb hT Tryz.func95 rfl rfl rfl rfl ?_;intro E hE
  refine ww ?_
  refine wwc hps ?_
  refine ww ?_
  refine qAa rfl (fun c1=>?_) (fun c1=>?_)
  ·exact absurd c1 (by simp)
  refine ww ?_
  refine wwgi hel ?_
  refine ww ?_
  refine qAa rfl (fun c2=>?_) (fun c2=>?_)
  ·refine ww ?_
   exact wwr
  ·exact absurd c2 (by rw [hn1];simpa using ht)
 rw [if_pos (by simpa using ht)]
 generalize hfin:contI [] k=fin
 refine qAb hT Tryz.func95 rfl rfl rfl rfl ?_;intro E hE
 refine ww ?_
 refine wwc hps ?_
 refine ww ?_
 refine qAa rfl (fun c1=>?_) (fun c1=>?_)
 ·exact absurd c1 (by simp)
 refine ww ?_
 refine wwgi hel ?_
 refine ww ?_
 refine qAa rfl (fun c2=>?_) (fun c2=>?_)
 ·exact absurd c2 (by rw [hn1];simpa using ht)
 refine qAo ?_
 refine wwe ?_
 refine qAu (qAn ?_)
 refine wws ?_
 refine qBh 6 5 0 (es:=[]) (.inr ⟨rfl,rfl⟩) rfl ?_
 refine ww ?_
 refine wwi hel ?_
 refine ww ?_
 refine qBu (ι:=Nat×List Inf) (fun x=>[(33,.d (.sl 3 (encNs k))),(34,.d (.int .i64 ((encNs k).length:Int))),(6,.sl 5 (encFs x.2) (.right 0)),(35,.d (.int .i64 (x.1:Int)))]) (fun x=>[.right 5 (encFs x.2).length])
  (fun x=>x.1≤k.length∧x.2.length=x.1∧contI x.2 (k.drop x.1)=fin) (fun x=>k.length-x.1) (0,[]) ⟨by simp,rfl,by simpa using hfin⟩ ⟨.refl _,.refl _,.refl _,.refl _,trivial⟩ (HLe.refl _) ?_
 rintro ⟨i,out⟩ ⟨hi,hol,hg⟩
 simp only at hi hol hg ⊢
 have hel2:=qDt out
 have hwr:IntKind.i64.wrap ((i:Int)+1)=((i+1:Nat):Int):=by rw [qAe (by omega)];omega
 refine ww ?_
 refine qAa rfl (fun c3=>?_) (fun c3=>?_)
 ·have c3':i < k.length:=by rw [hkl] at c3;simpa using c3
  have helx:(encNs k)[((i:Int)).toNat]?=some (encN k[i]):=by rw [Int.toNat_natCast];simp [encNs_eq,c3']
  have hdr:k.drop i=k[i]::k.drop (i+1):=List.drop_eq_getElem_cons c3'
  have hwy:=wgt_mem (List.getElem_mem c3')
  rw [hdr] at hg
  have hI:=infoP_spec k[i] (hwx.kids _ (List.getElem_mem c3')) (by omega)
  generalize k[i]=x at helx hg hI
  obtain ⟨tx,vx,kx⟩:=x
  rw [encN] at helx
  rw [nAV_eq] at hI
  refine ww ?_
  refine wwi helx ?_
  refine ww ?_
  refine wwx hI ?_
  rintro ⟨y,ok⟩ hy
  obtain ⟨y1,y2,y3,y4,y5⟩:=y
  unfold fCells
  simp only
  refine ww ?_
  refine qAa rfl (fun c4=>?_) (fun c4=>?_)
  ·have hn:ok=false:=by simpa using c4
   subst hn
   rw [contI_none (InfP_no hy)] at hg
   subst hg
   refine ww ?_
   exact wwr
  have hn:ok=true:=by simpa using c4
  subst hn
  rw [contI_some (InfP_ok hy)] at hg
  have hres:encFs (out++[⟨y1,y2,y3,y4,y5⟩])=encFs out++[[Dat.int .i64 y1,.int .i64 y2,.int .i64 y3,.int .i64 y4,.int .i64 y5]]:=by rw [encFs_append];rfl
  refine ww ?_
  refine qAd (qAk (i:=0) hT rfl rfl rfl rfl rfl rfl (by show ((encFs out).length+1)*(40+1)≤_;first | omega | (simp only [qAl,qAm,List.length_append,List.length_cons,List.length_nil];omega))) rfl ?_
  refine ww ?_
  exact ⟨(i+1,out++[⟨y1,y2,y3,y4,y5⟩]),[_,_],⟨c3',by rw [List.length_append,List.length_singleton,hol],hg⟩,by simp only;omega,⟨.refl _,.refl _,AV.le.eq (by rw [hres];rfl),.int hwr,trivial⟩,⟨⟨rfl,by rw [hres]⟩,ObLe.refl _,ObLe.refl _,trivial⟩,Env.below_mono hE (by simp),rfl,rfl⟩
 ·have c3':i=k.length:=by rw [hkl] at c3;simp at c3;omega
  subst c3'
  rw [List.drop_length,contI_nil] at hg
  have hV:=ValidI_spec out (by omega)
  unfold finI at hg
  generalize validI out=we at hV hg
  refine wwe ?_
  refine qDm (l:=[(6,.d (.sl 5 (encFs out)))]) (h':=[.right 5 (encFs out).length]) ⟨AV.le.dat,trivial⟩ (HLe.refl _) ?_
  refine ww ?_
  refine wwc hV ?_
  refine ww ?_
  refine qAa rfl (fun c5=>?_) (fun c5=>?_)
  ·have c5':we≠0:=by simpa using c5
   rw [if_pos c5'] at hg
   subst hg
   refine ww ?_
   exact wwr
  have c5':¬ we≠0:=by simpa using c5
  rw [if_neg c5'] at hg
  subst hg
  refine ww ?_
  exact wwr
theorem OpenInf_spec (b:List UInt8) (hb:b.length≤9223372036854775807):Spec Tryz.prog 41 [.d (.sl 1 (encB b))] [] (fun r h'=>r=.tup [.d (.sl 5 (encFs (infoO b).1)),.d (.int .i64 (infoO b).2)]∧h'=[]) :=
 OpenInf_walk b hb fun v hv=>DecodeP_spec v (by omega)
end Tdoc
namespace Tdoc
open Go Go.Proofs
def numG (f:Int) (s4 s3 s11:List UInt8):List UInt8×List UInt8×Int :=
 if s4≠[60] then (trimF s3,trimF s11,0)
 else if lenTo s11 < 2∨lenTo s11=s11.length∨f=3 then ([],[],1)
 else if (digitF (s3++s11.take (lenTo s11-1))).1≠[s11.getD (lenTo s11-1) 0] then ([],[],13)
 else (s3++s11.take (lenTo s11-1),trimF (s11.drop (lenTo s11+1)),0)
theorem numbers_spec (L:List Int) (ls:List (List UInt8)) (f:Int) (hS:OkS L ls) :
  Spec Tryz.prog 154 [.ptr 0 0,.d (.int .i64 f)] [.row (shC L ls)] (fun r h'=>r=.tup [.d (.str (numG f (fldG L ls 4) (fldG L ls 3) (fldG L ls 11)).1),.d (.str (numG f (fldG L ls 4) (fldG L ls 3) (fldG L ls 11)).2.1),.d (.int .i64 (numG f (fldG L ls 4) (fldG L ls 3) (fldG L ls 11)).2.2)]∧h'=[.row (shC L ls)]):=by
 have g4:=get_spec L ls 4 (by omega) hS.len (hS.all 4 (by omega))
 have g3:=get_spec L ls 3 (by omega) hS.len (hS.all 3 (by omega))
 have g11:=get_spec L ls 11 (by omega) hS.len (hS.all 11 (by omega))
 have v3:=value_spec L ls 3 (by omega) hS.len (hS.all 3 (by omega)) (by have:=hS.wid 3 (by omega);omega)
 have v11:=value_spec L ls 11 (by omega) hS.len (hS.all 11 (by omega)) (by have:=hS.wid 11 (by omega);omega)
 have l3:=hS.wid 3 (by omega)
 have l11:=hS.wid 11 (by omega)
 have hlw:=qCm 0 L ls
 generalize hr:numG f (fldG L ls 4) (fldG L ls 3) (fldG L ls 11)=res
 generalize fldG L ls 4=s4 at *
 generalize fldG L ls 3=s3 at *
 generalize fldG L ls 11=s11 at *
 have hcut:=Cut_spec s11 [60] (by omega)
 rw [cut_one] at hcut
 have hle:=lenTo_le s11
 unfold numG at hr
 refine qAb hT Tryz.func154 rfl rfl rfl rfl ?_;intro E hE
 refine ww ?_
 refine qAd (callS1 rfl rfl g4 [0] (by decide) rfl rfl rfl hlw hlw rfl rfl) rfl ?_
 refine ww ?_
 refine qAa rfl (fun c1=>?_) (fun c1=>?_)
 ·refine ww ?_
  refine qAd (callS1 rfl rfl v3 [0] (by decide) rfl rfl rfl hlw hlw rfl rfl) rfl ?_
  refine ww ?_
  refine qAd (callS1 rfl rfl v11 [0] (by decide) rfl rfl rfl hlw hlw rfl rfl) rfl ?_
  rw [if_pos (by simpa using c1)] at hr
  subst hr
  refine ww ?_
  exact rq ⟨rfl,rfl⟩ rfl (.refl _) (h6:=qCm 1 L ls)
 rw [if_neg (by simpa using c1)] at hr
 refine ww ?_
 refine qAd (callS1 rfl rfl g11 [0] (by decide) rfl rfl rfl hlw hlw rfl rfl) rfl ?_
 refine ww ?_
 by_cases hq:lenTo s11=s11.length
 ·rw [if_pos hq] at hcut
  simp only at hcut
  rw [if_pos (Or.inr (Or.inl hq))] at hr
  subst hr
  refine wwc hcut ?_
  refine ww ?_
  refine qAa rfl (fun c2=>?_) (fun c2=>?_)
  rotate_left
  ·exact absurd c2 (by simp)
  refine ww ?_
  exact rq ⟨rfl,rfl⟩ rfl (.refl _) (h6:=qCm 1 L ls)
 rw [if_neg hq] at hcut
 simp only at hcut
 have htl:(s11.take (lenTo s11)).length=lenTo s11:=by simp;omega
 generalize htx:s11.take (lenTo s11)=tx at *
 refine wwc hcut ?_
 refine ww ?_
 refine qAa rfl (fun c2=>?_) (fun c2=>?_)
 ·have c2':lenTo s11 < 2∨lenTo s11=s11.length∨f=3:=by simp [htl] at c2;omega
  rw [if_pos c2'] at hr
  subst hr
  refine ww ?_
  exact rq ⟨rfl,rfl⟩ rfl (.refl _) (h6:=qCm 1 L ls)
 have c2':2≤lenTo s11∧f≠3:=by simp [htl] at c2;omega
 rw [if_neg (by omega)] at hr
 have hw:IntKind.i64.wrap ((tx.length:Int)-1)=(lenTo s11:Int)-1:=by rw [htl];exact qAe (by omega)
 refine ww ?_
 rw [hw]
 refine ww ?_
 refine qAp (callS1 rfl rfl g3 [0] (by decide) rfl rfl rfl hlw hlw rfl rfl) rfl rfl ?_
 refine ww ?_
 have e1:((lenTo s11:Int)-1).toNat=lenTo s11-1:=by omega
 have hk1:tx.take ((lenTo s11:Int)-1).toNat=s11.take (lenTo s11-1):=by
  rw [← htx,e1,List.take_take]
  congr 1;omega
 have hk2:tx.drop ((lenTo s11:Int)-1).toNat=[s11.getD (lenTo s11-1) 0]:=by
  rw [← htx,e1,List.drop_take,List.drop_eq_getElem_cons (by omega:lenTo s11-1 < s11.length)]
  have e2:lenTo s11-(lenTo s11-1)=1:=by omega
  rw [e2,List.take_succ_cons,List.take_zero,List.getD_eq_getElem?_getD,List.getElem?_eq_getElem (by omega)]
  rfl
 rw [hk1]
 have hdd:=qBw (s3++s11.take (lenTo s11-1)) (by simp;omega)
 refine wwc hdd ?_
 refine ww ?_
 rw [hk2]
 refine qAa rfl (fun c3=>?_) (fun c3=>?_)
 ·rw [if_pos (by simpa using c3)] at hr
  subst hr
  refine ww ?_
  exact rq ⟨rfl,rfl⟩ rfl (.refl _) (h6:=qCm 1 L ls)
 rw [if_neg (by simpa using c3)] at hr
 subst hr
 have htt:=TrimR_spec (s11.drop (lenTo s11+1)) (by simp;omega)
 refine ww ?_
 refine wwc htt ?_
 refine ww ?_
 exact rq ⟨rfl,rfl⟩ rfl (.refl _) (h6:=qCm 1 L ls)
def fullP (s:List UInt8):Bool:=decide ((splitP s).2.2=0)&&decide ((trimF s).length=s.length)
theorem bI_eq {c:UInt8} {n:Nat} (hn:n < 256):(bI c == (n:Int))=decide (c=UInt8.ofNat n):=by
 unfold bI
 by_cases h:c=UInt8.ofNat n
 ·subst h;simp [UInt8.toNat_ofNat,Nat.mod_eq_of_lt hn]
 ·rw [decide_eq_false h]
  simp only [beq_eq_false_iff_ne,ne_eq]
  intro h'
  apply h
  have:c.toNat=n:=by omega
  rw [← this];simp
theorem isUp_dec (c:UInt8):isUp c=(decide (bI c≥65)&&decide (bI c≤90)):=by unfold isUp;simp [Bool.decide_and]
theorem trimF_le (s:List UInt8):(trimF s).length≤s.length:=by
 unfold trimF Lib.trimRightB
 have h:=(List.dropWhile_sublist (· == (60:UInt8)) (l:=s.reverse)).length_le
 simpa using h
theorem cut_le (s p:List UInt8):(Lib.cut s p).1.length≤s.length∧(Lib.cut s p).2.1.length≤s.length:=by
 unfold Lib.cut
 split
 ·simp;omega
 ·simp
theorem Split1_spec (s:List UInt8) (hs:s.length≤1000000):Spec Tryz.prog 226 [.d (.str s)] [] (fun r h'=>r=.d (.str (spaceF s))∧h'=[]):=by
 have hr:=ReplaceSp_spec s hs
 refine qAb hT Tryz.func226 rfl rfl rfl rfl ?_;intro E hE
 refine ww ?_
 refine wwc hr ?_
 refine ww ?_
 exact wwr
theorem SplitP_spec (s:List UInt8) (hs:s.length≤1000):Spec Tryz.prog 155 [.d (.str s)] [] (fun r h'=>r=.tup [.d (.str (splitP s).1),.d (.str (splitP s).2.1),.d (.bool (fullP s)),.d (.int .i64 (splitP s).2.2)]∧h'=[]):=by
 have ht:=TrimR_spec s (by omega)
 have hlt:(trimF s).length≤s.length:=trimF_le s
 generalize hfu:fullP s=fu
 unfold fullP at hfu
 generalize hr:splitP s=res at *
 unfold splitP at hr
 refine qAb hT Tryz.func155 rfl rfl rfl rfl ?_;intro E hE
 refine ww ?_
 refine qAa rfl (fun c1=>?_) (fun c1=>?_)
 ·rw [if_pos (by simp at c1;omega)] at hr
  subst hr
  subst hfu
  refine ww ?_
  exact wwr
 rw [if_neg (by simp at c1;omega)] at hr
 refine ww ?_
 refine qAq (ι:=Nat) (fun i=>[(0,.d (.str s)),(19,.d (.int .i64 (s.length:Int))),(20,.d (.int .i64 (i:Int)))]) (fun _=>[]) (fun i=>i≤s.length∧isFld (s.drop i)=isFld s) (fun i=>s.length-i) 0 ⟨by omega,by simp⟩ ⟨.refl _,.refl _,.refl _,trivial⟩ (HLe.refl _) ?_
 rintro i ⟨hi,hg⟩
 have hwr:IntKind.i64.wrap ((i:Int)+1)=((i+1:Nat):Int):=by rw [qAe (by omega)];simp
 refine ww ?_
 refine qAa rfl (fun h1=>?_) (fun h1=>?_)
 ·have h1':i < s.length:=by simpa using h1
  have hsa:=qCp h1'
  have hl:=letterP_spec (strAt s (i:Int))
  rw [drop_cons h1',isFld,List.all_cons] at hg
  have hup:=isUp_dec s[i]
  have hbe:=bI_eq (c:=s[i]) (n:=60) (by omega)
  generalize s[i]=c at hsa hg hup hbe
  rw [hsa,← hup] at hl
  rw [← hsa] at hl
  refine ww ?_
  refine wwc hl ?_
  refine ww ?_
  refine qAa rfl (fun h2=>?_) (fun h2=>?_)
  ·have h2':(decide (c=60)||isUp c)=false:=by
    rw [hsa] at h2
    have hbe':(bI c != 60)=!decide (c=60):=by unfold bne;exact congrArg _ hbe
    rw [hbe'] at h2
    simp at h2 ⊢
    exact ⟨h2.2,h2.1⟩
   rw [h2',Bool.false_and] at hg
   rw [← hg,if_pos rfl] at hr
   subst hr
   subst hfu
   refine ww ?_
   exact wwr
  ·have h2':(decide (c=60)||isUp c)=true:=by
    rw [hsa] at h2
    have hbe':(bI c != 60)=!decide (c=60):=by unfold bne;exact congrArg _ hbe
    rw [hbe'] at h2
    cases hu:isUp c
    ·rw [hu] at h2;simp at h2;simp [h2]
    ·simp
   rw [h2',Bool.true_and] at hg
   refine ww ?_
   exact ⟨i+1,⟨h1',hg⟩,by omega,⟨.refl _,.refl _,.int hwr,trivial⟩,HLe.refl _⟩
 have h1':i=s.length:=by simp at h1;omega
 subst h1'
 rw [List.drop_length] at hg
 rw [← hg,if_neg (by simp [isFld])] at hr
 have hcut:=Cut_spec (trimF s) [60,60] (by omega)
 have hlc:=cut_le (trimF s) [60,60]
 refine ww ?_
 refine wwc ht ?_
 refine ww ?_
 refine wwc hcut ?_
 generalize (Lib.cut (trimF s) [60,60]).1=q1 at *
 generalize (Lib.cut (trimF s) [60,60]).2.1=q2 at *
 generalize (Lib.cut (trimF s) [60,60]).2.2=q3 at *
 have hw1:=words_spec q1 60 (by omega) (by decide)
 have hw2:=words_spec q2 60 (by omega) (by decide)
 have hs1:=Split1_spec q1 (by omega)
 have hs2:=Split1_spec q2 (by omega)
 refine ww ?_
 refine wwgc hw1 ?_
 refine ww ?_
 refine wwgc hw2 ?_
 refine ww ?_
 refine qAa rfl (fun c3=>?_) (fun c3=>?_)
 ·rw [if_pos (by simpa [or_assoc] using c3)] at hr
  subst hr
  subst hfu
  refine ww ?_
  exact wwr
 rw [if_neg (by simpa [or_assoc,and_assoc] using c3)] at hr
 subst hr
 simp only [decide_true,Bool.true_and] at hfu
 refine ww ?_
 refine wwc hs1 ?_
 refine ww ?_
 refine wwc hs2 ?_
 refine ww ?_
 have hfv:(((trimF s).length:Int) == (s.length:Int))=fu:=by
  rw [← hfu]
  by_cases h:(trimF s).length=s.length
  ·simp [h]
  ·rw [decide_eq_false h];simp;omega
 subst hfv
 exact rq ⟨rfl,rfl⟩ rfl (.refl _)
end Tdoc
namespace Tdoc
open Go Go.Proofs
def strsD (ls:List (List UInt8)):List (List Dat):=ls.map fun s=>[.str s]
def idxW (n:Int):Int→List (List UInt8)→Int
 | _,[]=>-1
 | k,s::l=>if ((s.length:Int) != n)=true then k else idxW n (k+1) l
def offW (n:Int) (ls:List (List UInt8)):Bool:=ls.any fun s=>(s.length:Int) != n
theorem idxW_ge (n:Int):∀ (ls:List (List UInt8)) (k:Int),0≤k→decide (idxW n k ls≥0)=offW n ls
 | [],k,_=>by simp [idxW,offW]
 | s::l,k,hk=>by
  have ih:=idxW_ge n l (k+1) (by omega)
  rw [idxW]
  unfold offW at ih ⊢
  rw [List.any_cons,← ih]
  cases h:((s.length:Int) != n)
  ·rw [if_neg (by simp)];simp
  ·rw [if_pos rfl];simp;omega
theorem strsD_at {ls:List (List UInt8)} {i:Nat} (h:i < ls.length):(strsD ls)[i]?=some [.str (ls.getD i [])]:=by
 unfold strsD
 rw [List.getElem?_map,List.getD_eq_getElem?_getD,List.getElem?_eq_getElem h];rfl
theorem fmt1_spec (s:List UInt8) (n:Int):Spec Tryz.prog 219 [.d (.str s),.ptr 0 0] [.row [.d (.int .i64 n)]] (fun r h'=>r=.d (.bool ((s.length:Int) != n))∧h'=[.row [.d (.int .i64 n)]]):=by
 refine qAb hT Tryz.func219 rfl rfl rfl rfl ?_;intro E hE
 refine ww ?_
 exact wwr
theorem IndexW_spec (ls:List (List UInt8)) (n:Int) (hl:ls.length≤1000000):Spec Tryz.prog 253 [.d (.sl 1 (strsD ls)),.fn (.func 219) [] [.ptr 0 0]] [.row [.d (.int .i64 n)]] (fun r h'=>r=.d (.int .i64 (idxW n 0 ls))∧h'=[.row [.d (.int .i64 n)]]):=by
 generalize hfin:idxW n 0 ls=fin
 have hsl:(strsD ls).length=ls.length:=by simp [strsD]
 refine qAb hT Tryz.func253 rfl rfl rfl rfl ?_;intro E hE
 refine ww ?_
 refine qBu (ι:=Nat) (fun i=>[(0,.d (.sl 1 (strsD ls))),(1,.fn (.func 219) [] [.ptr 0 0]),(7,.d (.int .i64 (ls.length:Int))),(8,.d (.int .i64 (i:Int)))]) (fun _=>[.row [.d (.int .i64 n)]])
  (fun i=>i≤ls.length∧idxW n i (ls.drop i)=fin) (fun i=>ls.length-i) 0 ⟨by omega,by simpa using hfin⟩ ⟨.refl _,.refl _,.int (by simp [strsD]),.refl _,trivial⟩ (HLe.refl _) ?_
 rintro i ⟨hi,hg⟩
 have hwr:IntKind.i64.wrap ((i:Int)+1)=((i+1:Nat):Int):=by rw [qAe (by omega)];simp
 refine ww ?_
 refine qAa rfl (fun c1=>?_) (fun c1=>?_)
 rotate_left
 ·have h1':i=ls.length:=by simp at c1;omega
  subst h1'
  rw [List.drop_length,idxW] at hg
  subst hg
  refine ww ?_
  exact wwr
 have h1':i < ls.length:=by simpa using c1
 rw [drop_cons h1',idxW] at hg
 have hat:=strsD_at h1'
 rw [List.getD_eq_getElem?_getD,List.getElem?_eq_getElem h1',Option.getD_some] at hat
 have hf:=fmt1_spec (ls[i]) n
 generalize ls[i]=s at hat hg hf
 refine ww ?_
 refine qAd (qAc (qAi hT rfl rfl rfl rfl (by omega) (i:=i) hat)) rfl ?_
 refine ww ?_
 refine qAd (callS1 rfl rfl hf [0] (by decide) rfl rfl rfl rfl rfl rfl rfl) rfl ?_
 refine ww ?_
 refine qAa rfl (fun c2=>?_) (fun c2=>?_)
 ·rw [if_pos c2] at hg
  subst hg
  refine ww ?_
  exact wwr
 ·rw [if_neg (by rw [c2];simp)] at hg
  refine ww ?_
  exact ⟨i+1,[],⟨h1',hg⟩,by omega,⟨.refl _,.refl _,.refl _,.int hwr,trivial⟩,HLe.refl _,Env.below_mono hE (by simp),rfl,rfl⟩
theorem ContainsW_spec (ls:List (List UInt8)) (n:Int) (hl:ls.length≤1000000):Spec Tryz.prog 218 [.d (.sl 1 (strsD ls)),.fn (.func 219) [] [.ptr 0 0]] [.row [.d (.int .i64 n)]] (fun r h'=>r=.d (.bool (offW n ls))∧h'=[.row [.d (.int .i64 n)]]):=by
 have hi:=IndexW_spec ls n hl
 have hge:=idxW_ge n ls 0 (by omega)
 rw [← hge]
 refine qAb hT Tryz.func218 rfl rfl rfl rfl ?_;intro E hE
 refine ww ?_
 refine qAd (callS1 rfl rfl hi [0] (by decide) rfl rfl rfl rfl rfl rfl rfl) rfl ?_
 refine ww ?_
 exact wwr
def formF (ls:List (List UInt8)):Int :=
 if ls.length=2∧offW 44 ls=false then 3 else if ls.length=2∧offW 36 ls=false then 2 else if ls.length=3∧offW 30 ls=false then 1 else 0
theorem formF_shape (ls:List (List UInt8)):formF ls=shapeF ls:=by
 unfold formF shapeF offW
 rcases ls with _ | ⟨a,_ | ⟨b,_ | ⟨c,_ | ⟨d,l⟩⟩⟩⟩
 ·simp
 ·simp
 ·simp
  by_cases h1:a.length=44 <;> by_cases h2:b.length=44 <;> by_cases h3:a.length=36 <;> by_cases h4:b.length=36 <;> simp_all <;> omega
 ·simp
  by_cases h1:a.length=30 <;> by_cases h2:b.length=30 <;> by_cases h3:c.length=30 <;> simp_all <;> omega
 ·simp
def restW (ls:List (List UInt8)) (i:Nat):Int:=match i with
 | 0=>formF ls
 | 1=>if ls.length=2∧offW 36 ls=false then 2 else if ls.length=3∧offW 30 ls=false then 1 else 0
 | 2=>if ls.length=3∧offW 30 ls=false then 1 else 0
 | _=>0
theorem format_spec (ls:List (List UInt8)) (hl:ls.length≤1000000):Spec Tryz.prog 151 [.d (.sl 1 (strsD ls))] [] (fun r h'=>r=.d (.int .i64 (shapeF ls))∧h'=[]):=by
 have c3:=ContainsW_spec ls 44 hl
 have c2:=ContainsW_spec ls 36 hl
 have c1:=ContainsW_spec ls 30 hl
 have l3:=qCv 3
 have l2:=qCv 2
 have l1:=qCv 1
 rw [← formF_shape]
 have hsl:(strsD ls).length=ls.length:=by simp [strsD]
 generalize hfin:formF ls=fin
 refine qAb hT Tryz.func151 rfl rfl rfl rfl ?_;intro E hE
 refine ww ?_
 refine qBu (ι:=Nat) (fun i=>[(0,.d (.sl 1 (strsD ls))),(8,.d (.sl 1 [[.int .i64 3],[.int .i64 2],[.int .i64 1]])),(9,.d (.int .i64 3)),(10,.d (.int .i64 (i:Int)))]) (fun _=>[])
  (fun i=>i≤3∧restW ls i=fin) (fun i=>3-i) 0 ⟨by omega,hfin⟩ ⟨.refl _,.dat,.refl _,.refl _,trivial⟩ (HLe.refl _) ?_
 rintro i ⟨hi,hg⟩
 have h4:i=0∨i=1∨i=2∨i=3:=by omega
 rcases h4 with rfl | rfl | rfl | rfl
 ·have hg':(if ls.length=2∧offW 44 ls=false then 3 else restW ls 1)=fin:=hg
  refine ww ?_
  refine qAa rfl (fun c0=>?_) (fun c0=>?_)
  rotate_left
  ·exact absurd c0 (by simp)
  refine ww ?_
  refine qAd (qAc (qAi hT rfl rfl rfl rfl (by decide) (el:=[.int .i64 3]) rfl)) rfl ?_
  refine ww ?_
  refine wwc l3 ?_
  refine ww ?_
  refine qBq rfl rfl rfl (fun hg=>⟨(sg (C:=True) hg).1,callS1 rfl rfl c3 [1] (by decide) rfl rfl rfl rfl rfl rfl rfl⟩) ?_
  refine ww ?_
  refine qAa rfl (fun cc=>?_) (fun cc=>?_)
  ·have cc':ls.length=2∧offW 44 ls=false:=by
    have e:layN 3=2:=rfl
    rw [hsl,e] at cc
    simp at cc
    exact ⟨by omega,cc.2⟩
   rw [if_pos cc'] at hg'
   subst hg'
   refine ww ?_
   exact rq ⟨rfl,rfl⟩ rfl (.refl _)
  ·have cc':¬ (ls.length=2∧offW 44 ls=false):=by
    have e:layN 3=2:=rfl
    rw [hsl,e] at cc
    rintro ⟨h1,h2⟩
    rw [h1,h2] at cc
    exact absurd cc (by simp)
   rw [if_neg cc'] at hg'
   refine ww ?_
   exact ⟨1,[_,_],⟨by omega,hg'⟩,by omega,⟨.refl _,.refl _,.refl _,.refl _,trivial⟩,HLe.refl _,hE,rfl,rfl⟩
 ·have hg':(if ls.length=2∧offW 36 ls=false then 2 else restW ls 2)=fin:=hg
  refine ww ?_
  refine qAa rfl (fun c0=>?_) (fun c0=>?_)
  rotate_left
  ·exact absurd c0 (by simp)
  refine ww ?_
  refine qAd (qAc (qAi hT rfl rfl rfl rfl (by decide) (el:=[.int .i64 2]) rfl)) rfl ?_
  refine ww ?_
  refine wwc l2 ?_
  refine ww ?_
  refine qBq rfl rfl rfl (fun hg=>⟨(sg (C:=True) hg).1,callS1 rfl rfl c2 [1] (by decide) rfl rfl rfl rfl rfl rfl rfl⟩) ?_
  refine ww ?_
  refine qAa rfl (fun cc=>?_) (fun cc=>?_)
  ·have cc':ls.length=2∧offW 36 ls=false:=by
    have e:layN 2=2:=rfl
    rw [hsl,e] at cc
    simp at cc
    exact ⟨by omega,cc.2⟩
   rw [if_pos cc'] at hg'
   subst hg'
   refine ww ?_
   exact rq ⟨rfl,rfl⟩ rfl (.refl _)
  ·have cc':¬ (ls.length=2∧offW 36 ls=false):=by
    have e:layN 2=2:=rfl
    rw [hsl,e] at cc
    rintro ⟨h1,h2⟩
    rw [h1,h2] at cc
    exact absurd cc (by simp)
   rw [if_neg cc'] at hg'
   refine ww ?_
   exact ⟨2,[_,_],⟨by omega,hg'⟩,by omega,⟨.refl _,.refl _,.refl _,.refl _,trivial⟩,HLe.refl _,hE,rfl,rfl⟩
 ·have hg':(if ls.length=3∧offW 30 ls=false then 1 else restW ls 3)=fin:=hg
  refine ww ?_
  refine qAa rfl (fun c0=>?_) (fun c0=>?_)
  rotate_left
  ·exact absurd c0 (by simp)
  refine ww ?_
  refine qAd (qAc (qAi hT rfl rfl rfl rfl (by decide) (el:=[.int .i64 1]) rfl)) rfl ?_
  refine ww ?_
  refine wwc l1 ?_
  refine ww ?_
  refine qBq rfl rfl rfl (fun hg=>⟨(sg (C:=True) hg).1,callS1 rfl rfl c1 [1] (by decide) rfl rfl rfl rfl rfl rfl rfl⟩) ?_
  refine ww ?_
  refine qAa rfl (fun cc=>?_) (fun cc=>?_)
  ·have cc':ls.length=3∧offW 30 ls=false:=by
    have e:layN 1=3:=rfl
    rw [hsl,e] at cc
    simp at cc
    exact ⟨by omega,cc.2⟩
   rw [if_pos cc'] at hg'
   subst hg'
   refine ww ?_
   exact rq ⟨rfl,rfl⟩ rfl (.refl _)
  ·have cc':¬ (ls.length=3∧offW 30 ls=false):=by
    have e:layN 1=3:=rfl
    rw [hsl,e] at cc
    rintro ⟨h1,h2⟩
    rw [h1,h2] at cc
    exact absurd cc (by simp)
   rw [if_neg cc'] at hg'
   refine ww ?_
   exact ⟨3,[_,_],⟨by omega,hg'⟩,by omega,⟨.refl _,.refl _,.refl _,.refl _,trivial⟩,HLe.refl _,hE,rfl,rfl⟩
 ·have hg':0=fin:=hg
  subst hg'
  refine ww ?_
  refine qAa rfl (fun c0=>?_) (fun c0=>?_)
  ·exact absurd c0 (by simp)
  refine ww ?_
  exact wwr
end Tdoc
namespace Tdoc
open Go Go.Proofs
def coreG (f:Int) (L:List Int) (ls:List (List UInt8)) (cg:List UInt8):Zon×Int :=
 if restG L ls cg 0=false then (zon0,13)
 else if (numG f (fldG L ls 4) (fldG L ls 3) (fldG L ls 11)).2.2≠0 then (zon0,(numG f (fldG L ls 4) (fldG L ls 3) (fldG L ls 11)).2.2)
 else if (splitP (fldG L ls 2)).2.2≠0 then (zon0,(splitP (fldG L ls 2)).2.2)
 else if validZ ⟨f,trimF (fldG L ls 0),trimF (fldG L ls 1),(splitP (fldG L ls 2)).1,(splitP (fldG L ls 2)).2.1,(numG f (fldG L ls 4) (fldG L ls 3) (fldG L ls 11)).1,trimF (fldG L ls 5),fldG L ls 6,fldG L ls 8,fldG L ls 9,(numG f (fldG L ls 4) (fldG L ls 3) (fldG L ls 11)).2.1,trimF (fldG L ls 13)⟩≠0
 then (zon0,validZ ⟨f,trimF (fldG L ls 0),trimF (fldG L ls 1),(splitP (fldG L ls 2)).1,(splitP (fldG L ls 2)).2.1,(numG f (fldG L ls 4) (fldG L ls 3) (fldG L ls 11)).1,trimF (fldG L ls 5),fldG L ls 6,fldG L ls 8,fldG L ls 9,(numG f (fldG L ls 4) (fldG L ls 3) (fldG L ls 11)).2.1,trimF (fldG L ls 13)⟩)
 else (⟨f,trimF (fldG L ls 0),trimF (fldG L ls 1),(splitP (fldG L ls 2)).1,(splitP (fldG L ls 2)).2.1,(numG f (fldG L ls 4) (fldG L ls 3) (fldG L ls 11)).1,trimF (fldG L ls 5),fldG L ls 6,fldG L ls 8,fldG L ls 9,(numG f (fldG L ls 4) (fldG L ls 3) (fldG L ls 11)).2.1,trimF (fldG L ls 13)⟩,0)
theorem spaceF_len (s:List UInt8):(spaceF s).length=s.length:=by simp [spaceF]
theorem splitP_len (s:List UInt8):(splitP s).1.length≤s.length∧(splitP s).2.1.length≤s.length:=by
 have h1:=trimF_le s
 have h2:=cut_le (trimF s) [60,60]
 unfold splitP
 split
 ·simp
 split
 ·simp
 split
 ·simp
 ·simp only [spaceF_len];omega
theorem numG_len (f:Int) (a b c:List UInt8):(numG f a b c).1.length≤b.length+c.length∧(numG f a b c).2.1.length≤c.length:=by
 have h1:=trimF_le b
 have h2:=trimF_le c
 have h3:=trimF_le (c.drop (lenTo c+1))
 simp only [List.length_drop] at h3
 unfold numG
 split
 ·simp only;omega
 split
 ·simp
 split
 ·simp
 ·simp only [List.length_append,List.length_take];omega
theorem coreG_len (f:Int) (L:List Int) (ls:List (List UInt8)) (hw:∀ i,i < 15→(fldG L ls i).length≤1000):zLen ⟨f,trimF (fldG L ls 0),trimF (fldG L ls 1),(splitP (fldG L ls 2)).1,(splitP (fldG L ls 2)).2.1,(numG f (fldG L ls 4) (fldG L ls 3) (fldG L ls 11)).1,trimF (fldG L ls 5),fldG L ls 6,fldG L ls 8,fldG L ls 9,(numG f (fldG L ls 4) (fldG L ls 3) (fldG L ls 11)).2.1,trimF (fldG L ls 13)⟩:=by
 have t0:=trimF_le (fldG L ls 0)
 have t1:=trimF_le (fldG L ls 1)
 have t5:=trimF_le (fldG L ls 5)
 have t13:=trimF_le (fldG L ls 13)
 have w0:=hw 0 (by omega)
 have w1:=hw 1 (by omega)
 have w2:=hw 2 (by omega)
 have w3:=hw 3 (by omega)
 have w5:=hw 5 (by omega)
 have w6:=hw 6 (by omega)
 have w8:=hw 8 (by omega)
 have w9:=hw 9 (by omega)
 have w11:=hw 11 (by omega)
 have w13:=hw 13 (by omega)
 have s2:=splitP_len (fldG L ls 2)
 have n2:=numG_len f (fldG L ls 4) (fldG L ls 3) (fldG L ls 11)
 unfold zLen
 simp only
 omega
theorem layD_len (f:Int):(layD f).length=45:=by unfold layD;split;rfl;split;rfl;split;rfl;simp
theorem linesD_take {ls:List (List UInt8)} {k:Nat} (h:k < ls.length):linesD (ls.take (k+1))=linesD (ls.take k)++[[.sl 1 (encB (ls.getD k []))]]:=by
 unfold linesD
 rw [List.take_add_one,List.map_append,List.getElem?_eq_getElem h,List.getD_eq_getElem?_getD,List.getElem?_eq_getElem h]
 rfl
theorem intsA_len (L:List Int):(intsA L).length=L.length:=by simp [intsA]
theorem AllLe_app:∀ (l:List AV) {x y:AV},AV.le x y→AllLe (l++[x]) (l++[y])
 | [],x,y,h=>⟨h,trivial⟩
 | a::l,x,y,h=>⟨.refl _,AllLe_app l h⟩
theorem shC_app (L:List Int) (ls:List (List UInt8)):shC L ls=intsA L++[.d (.sl 1 (linesD ls))]:=by simp [shC,shD,intsA,Function.comp_def]
theorem low_ints (k:Nat) (L:List Int):lowL k (intsA L)=true:=by
 unfold intsA
 induction L with
 | nil=>rfl
 | cons a l ih=>simp [low,lowL] at ih ⊢;exact ih
theorem Parse_bad (ls:List (List UInt8)) (hl:ls.length≤1000000) (h0:shapeF ls=0) :
  Spec Tryz.prog 90 [.d (.sl 1 (strsD ls))] [] (fun r h'=>r=.tup [zAV zon0,.d (.int .i64 2)]∧h'=[]):=by
 have hfm:=format_spec ls hl
 rw [h0] at hfm
 refine qAb hT Tryz.func90 rfl rfl rfl rfl ?_;intro E hE
 refine ww ?_
 refine wwc hfm ?_
 refine ww ?_
 refine qAa rfl (fun c1=>?_) (fun c1=>?_)
 ·refine ww ?_
  exact wwr
 ·exact absurd c1 (by simp)
theorem Parse_walk (ls:List (List UInt8)) (f:Int) (cg:List UInt8) (hl:ls.length≤1000) (hsh:shapeF ls=f) (hf:f≠0) (hS:OkS (layD f) ls) (hln:∀ k,(ls.getD k []).length≤1000) (hcl:cg.length≤1000)
  (hcomp:Spec Tryz.prog 126 [.ptr 0 0] [.row (shC (layD f) ls)] (fun r h'=>r=.d (.str cg)∧h'=[.row (shC (layD f) ls)])) :
  Spec Tryz.prog 90 [.d (.sl 1 (strsD ls))] [] (fun r h'=>r=.tup [zAV (if ls.all validS=false then (zon0,12) else coreG f (layD f) ls cg).1,.d (.int .i64 (if ls.all validS=false then (zon0,12) else coreG f (layD f) ls cg).2)]∧h'=[]):=by
 have hfm:=format_spec ls (by omega)
 rw [hsh] at hfm
 have hly:=qCv f
 have hLl:=layD_len f
 have hchk:=checked_spec2 (layD f) ls cg hS hcl hcomp
 generalize layD f=L at *
 have hLi:(intsA L).length=45:=by rw [intsA_len,hLl]
 have hLL:lowL 0 (intsA L)=true:=low_ints 0 L
 generalize hfin:(if ls.all validS=false then (zon0,12) else coreG f L ls cg)=fin
 refine qAb hT Tryz.func90 rfl rfl rfl rfl ?_;intro E hE
 refine ww ?_
 refine wwc hfm ?_
 refine ww ?_
 refine qAa rfl (fun c1=>?_) (fun c1=>?_)
 ·exact absurd (by simpa using c1) hf
 refine ww ?_
 refine qAd (callS0 rfl rfl hly rfl rfl (by simp [low,lowL,hLL])) rfl ?_
 refine qAd (qAc (move_ok (.inl rfl))) rfl ?_
 refine qAd (qAc (extractA_ok rfl rfl)) rfl ?_
 refine qAd (qAc (extractA_ok rfl rfl)) rfl ?_
 refine qAd (qAc (extractA_ok rfl rfl)) rfl ?_
 refine ww ?_
 refine AWk_op0 (storeAgg_ok hT rfl rfl rfl rfl rfl hLi (by decide) (setRun_head (cells:=List.replicate 45 (.d (.int .i64 0))) (rest:=[.sl 1 [] .full]) (by rw [hLi];rfl))) rfl ?_
 refine ww ?_
 have hlast:∀ (x:AV),(intsA L++[x])[45]?=some x:=fun x=>by rw [List.getElem?_append_right (by omega),hLi];rfl
 have hset:∀ (x y:AV),(intsA L++[x]).set 45 y=intsA L++[y]:=fun x y=>by
  rw [List.set_append_right _ _ (by omega),hLi];rfl
 have hlen46:∀ (x:AV),45 < (intsA L++[x]).length:=fun x=>by simp [hLi]
 have hsl:(strsD ls).length=ls.length:=by simp [strsD]
 have hlow3:∀ (es:List (List Dat)) (n:Nat),lowH 3 [.row (zCells zon0),.row (intsA L++[.sl 1 es (.right 2)]),.right 1 n]=true:=fun es n=>by
  have h1:lowL 3 (intsA L++[.sl 1 es (.right 2)])=true:=by
   have h2:=low_ints 3 L
   generalize intsA L=l at h2 ⊢
   induction l with
   | nil=>rfl
   | cons a l ih=>simp only [lowL,Bool.and_eq_true,List.cons_append] at h2 ⊢;exact ⟨h2.1,ih h2.2⟩
  simp only [lowH,lowO,h1]
  rfl
 refine qAo (qDn 1 45 2 1 rfl (hlast _) rfl ?_)
 rw [hset]
 refine qBu (ι:=Nat) (fun k=>[(0,.d (.sl 1 (strsD ls))),(2,.ptr 0 0),(4,.d (.int .i64 f)),(5,.ptr 1 0),(32,.d (.sl 1 (strsD ls))),(33,.d (.int .i64 (ls.length:Int))),(34,.d (.int .i64 (k:Int)))])
  (fun k=>[.row (zCells zon0),.row (intsA L++[.sl 1 (linesD (ls.take k)) (.right 2)]),.right 1 (linesD (ls.take k)).length])
  (fun k=>k≤ls.length∧(ls.drop k).all validS=ls.all validS) (fun k=>ls.length-k) 0 ⟨by omega,by simp⟩ ⟨.refl _,.refl _,.refl _,.refl _,.refl _,.int (by rw [hsl]),.refl _,trivial⟩ (HLe.refl _) ?_
 rintro k ⟨hk,hg⟩
 have hwr:IntKind.i64.wrap ((k:Int)+1)=((k+1:Nat):Int):=by rw [qAe (by omega)];simp
 refine ww ?_
 refine qAa rfl (fun c2=>?_) (fun c2=>?_)
 ·have hk':k < ls.length:=by simpa using c2
  have hat:=strsD_at hk'
  have htk:=linesD_take hk'
  have hvl:=ValidP_spec (ls.getD k []) (by have:=hln k;omega)
  rw [drop_cons hk',List.all_cons] at hg
  have hgd:ls.getD k []=ls[k]:=by rw [List.getD_eq_getElem?_getD,List.getElem?_eq_getElem hk'];rfl
  rw [← hgd] at hg
  generalize ls.getD k []=s at hat htk hvl hg
  have hll:(linesD (ls.take k)).length≤1000:=by simp [linesD];omega
  refine ww ?_
  refine qAd (qAc (qAi hT rfl rfl rfl rfl (by omega) (i:=(k:Int)) hat)) rfl ?_
  refine ww ?_
  refine wwc hvl ?_
  refine ww ?_
  refine qAa rfl (fun c3=>?_) (fun c3=>?_)
  ·have hv:validS s=false:=by simpa using c3
   rw [hv,Bool.false_and] at hg
   rw [← hg,if_pos rfl] at hfin
   subst hfin
   refine ww ?_
   exact wwr
  have hv:validS s=true:=by simpa using c3
  rw [hv,Bool.true_and] at hg
  refine ww ?_
  refine qAd (qBd hT rfl rfl rfl rfl rfl (hlast _)) rfl ?_
  refine ww ?_
  refine qAd (strBytes_ok (s:=s) hT rfl rfl rfl) rfl ?_
  refine ww ?_
  refine qAd (qAk (i:=2) hT rfl rfl rfl rfl rfl rfl (by show ((linesD (ls.take k)).length+1)*(24+1)≤_;omega)) rfl ?_
  refine ww ?_
  refine AWk_op0 (store1_ok hT rfl rfl rfl rfl rfl rfl (hlen46 _)) rfl ?_
  refine ww ?_
  rw [hset]
  exact ⟨k+1,[],⟨hk',hg⟩,by omega,⟨.refl _,.refl _,.refl _,.refl _,.refl _,.refl _,.int hwr,trivial⟩,⟨ObLe.refl _,AllLe_app _ (AV.le.slt htk.symm),⟨rfl,by rw [htk];rfl⟩,trivial⟩,Env.below_mono hE (by simp),rfl,hlow3 _ _⟩
 have hk':k=ls.length:=by simp at c2;omega
 subst hk'
 rw [List.drop_length] at hg
 rw [← hg,if_neg (by simp)] at hfin
 rw [List.take_length]
 refine wwe ?_
 have hzl:lowL 2 (zCells zon0)=true:=rfl
 refine AW_cut (l:=[(2,.ptr 0 0),(4,.d (.int .i64 f)),(5,.ptr 1 0)]) [.row (zCells zon0),.row (shC L ls)] [.dead] (Env.below_mono hE (by simp)) ⟨.refl _,.refl _,.refl _,trivial⟩ rfl ⟨ObLe.refl _,by show AllLe _ _;rw [shC_app];exact AllLe_app _ AV.le.dat,trivial,trivial⟩ (by simp only [lowH,lowO,hzl,shC,lowL_d];rfl) ?_
 have hlw:=qCm 0 L ls
 have hzl2:=coreG_len f L ls hS.wid
 unfold coreG at hfin
 refine ww ?_
 refine qAd (callS1 rfl rfl hchk [1] (by decide) rfl rfl rfl hlw hlw rfl rfl) rfl ?_
 refine ww ?_
 refine qAa rfl (fun c4=>?_) (fun c4=>?_)
 ·rw [if_pos (by simpa using c4)] at hfin
  subst hfin
  refine ww ?_
  exact wwr
 rw [if_neg (by simpa using c4)] at hfin
 have hnum:=numbers_spec L ls f hS
 generalize numG f (fldG L ls 4) (fldG L ls 3) (fldG L ls 11)=nm at *
 refine ww ?_
 refine qAd (callS1 rfl rfl hnum [1] (by decide) rfl rfl rfl hlw hlw rfl rfl) rfl ?_
 refine ww ?_
 refine qAa rfl (fun c5=>?_) (fun c5=>?_)
 ·rw [if_pos (by simpa using c5)] at hfin
  subst hfin
  refine ww ?_
  exact wwr
 rw [if_neg (by simpa using c5)] at hfin
 have hg2:=get_spec L ls 2 (by omega) hS.len (hS.all 2 (by omega))
 have hspl:=SplitP_spec (fldG L ls 2) (hS.wid 2 (by omega))
 refine ww ?_
 refine qAd (callS1 rfl rfl hg2 [1] (by decide) rfl rfl rfl hlw hlw rfl rfl) rfl ?_
 refine ww ?_
 generalize splitP (fldG L ls 2)=sp at *
 refine wwc hspl ?_
 refine ww ?_
 refine qAa rfl (fun c6=>?_) (fun c6=>?_)
 ·rw [if_pos (by simpa using c6)] at hfin
  subst hfin
  refine ww ?_
  exact wwr
 rw [if_neg (by simpa using c6)] at hfin
 have hv0:=value_spec L ls 0 (by omega) hS.len (hS.all 0 (by omega)) (by have:=hS.wid 0 (by omega);omega)
 have hv1:=value_spec L ls 1 (by omega) hS.len (hS.all 1 (by omega)) (by have:=hS.wid 1 (by omega);omega)
 have hv5:=value_spec L ls 5 (by omega) hS.len (hS.all 5 (by omega)) (by have:=hS.wid 5 (by omega);omega)
 have hv13:=value_spec L ls 13 (by omega) hS.len (hS.all 13 (by omega)) (by have:=hS.wid 13 (by omega);omega)
 have hg6:=get_spec L ls 6 (by omega) hS.len (hS.all 6 (by omega))
 have hg8:=get_spec L ls 8 (by omega) hS.len (hS.all 8 (by omega))
 have hg9:=get_spec L ls 9 (by omega) hS.len (hS.all 9 (by omega))
 generalize hz:Zon.mk f (trimF (fldG L ls 0)) (trimF (fldG L ls 1)) sp.1 sp.2.1 nm.1 (trimF (fldG L ls 5)) (fldG L ls 6) (fldG L ls 8) (fldG L ls 9) nm.2.1 (trimF (fldG L ls 13))=z at hfin
 have hvz:=ZValid_spec z (by subst hz;exact hzl2)
 have hzc:zCells z=[.d (.int .i64 f),.d (.str (trimF (fldG L ls 0))),.d (.str (trimF (fldG L ls 1))),.d (.str sp.1),.d (.str sp.2.1),.d (.str nm.1),.d (.str (trimF (fldG L ls 5))),.d (.str (fldG L ls 6)),.d (.str (fldG L ls 8)),.d (.str (fldG L ls 9)),.d (.str nm.2.1),.d (.str (trimF (fldG L ls 13)))]:=by subst hz;rfl
 unfold zAV at hvz
 rw [hzc] at hvz
 refine ww ?_
 refine qAd (callS1 rfl rfl hv0 [1] (by decide) rfl rfl rfl hlw hlw rfl rfl) rfl ?_
 refine ww ?_
 refine qAd (callS1 rfl rfl hv1 [1] (by decide) rfl rfl rfl hlw hlw rfl rfl) rfl ?_
 refine ww ?_
 refine qAd (callS1 rfl rfl hv5 [1] (by decide) rfl rfl rfl hlw hlw rfl rfl) rfl ?_
 refine ww ?_
 refine qAd (callS1 rfl rfl hg6 [1] (by decide) rfl rfl rfl hlw hlw rfl rfl) rfl ?_
 refine ww ?_
 refine qAd (callS1 rfl rfl hg8 [1] (by decide) rfl rfl rfl hlw hlw rfl rfl) rfl ?_
 refine ww ?_
 refine qAd (callS1 rfl rfl hg9 [1] (by decide) rfl rfl rfl hlw hlw rfl rfl) rfl ?_
 refine ww ?_
 refine qAd (callS1 rfl rfl hv13 [1] (by decide) rfl rfl rfl hlw hlw rfl rfl) rfl ?_
 refine ww ?_
 refine wwc hvz ?_
 refine ww ?_
 refine qAa rfl (fun c7=>?_) (fun c7=>?_)
 ·rw [if_pos (by simpa using c7)] at hfin
  subst hfin
  refine ww ?_
  exact wwr
 rw [if_neg (by simpa using c7)] at hfin
 subst hfin
 refine ww ?_
 unfold zAV
 rw [hzc]
 exact wwr
end Tdoc
namespace Tdoc
open Go Go.Proofs
theorem cutL_cutS (s:List UInt8) (a b:Nat):cutL s (a:Int) (b:Int)=cutS s a b:=by
 unfold cutL cutS
 rw [Int.toNat_natCast,Int.toNat_natCast,List.drop_take]
theorem numG_numF (f:Int) (x:Fl) (hn:validS x.num=true) (ho:validS x.opt=true):numG f x.dg x.num x.opt=numF f x:=by
 have hv:validS (x.num++x.opt.take (lenTo x.opt-1))=true:=validS_mem.2 fun c hc=>by
  rcases List.mem_append.1 hc with h | h
  ·exact validS_mem.1 hn c h
  ·exact validS_mem.1 ho c (List.mem_of_mem_take h)
 unfold numG numF
 rw [qCh hv]
 simp only
 by_cases h1:x.dg≠[60]
 ·rw [if_pos h1,if_pos h1]
 rw [if_neg h1,if_neg h1]
 by_cases h2:f=3∨lenTo x.opt < 2∨lenTo x.opt=x.opt.length
 ·rw [if_pos h2,if_pos (by omega)]
 rw [if_neg h2,if_neg (by omega)]
 by_cases h3:[x.opt.getD (lenTo x.opt-1) 0]≠digitS (x.num++x.opt.take (lenTo x.opt-1))
 ·rw [if_pos h3,if_pos (fun h=>h3 h.symm)]
 ·rw [if_neg h3,if_neg (fun h=>h3 (fun h'=>h h'.symm))]
theorem core_agree (f:Int) (L:List Int) (ls:List (List UInt8)) (cg:List UInt8) (x:Fl)
  (h0:fldG L ls 0=x.kind) (h1:fldG L ls 1=x.state) (h2:fldG L ls 2=x.names) (h3:fldG L ls 3=x.num) (h4:fldG L ls 4=x.dg) (h5:fldG L ls 5=x.nat) (h6:fldG L ls 6=x.bir) (h7:fldG L ls 7=x.bd)
  (h8:fldG L ls 8=x.sex) (h9:fldG L ls 9=x.exp) (h10:fldG L ls 10=x.ed) (h11:fldG L ls 11=x.opt) (h12:fldG L ls 12=x.od) (h13:fldG L ls 13=x.sec) (h14:fldG L ls 14=x.comp)
  (hp:plC L 12=0↔f≠3) (v3:validS x.num=true) (v6:validS x.bir=true) (v9:validS x.exp=true) (v11:validS x.opt=true) (va:validS x.all=true) (hc:cg=x.all):coreG f L ls cg=coreZ f x:=by
 have hr:restG L ls cg 0=chkF f x:=by
  unfold restG chkF okP endG dgG
  simp only [h3,h4,h6,h7,h9,h10,h11,h12,h14,hc,qCh v3,qCh v6,qCh v9,qCh v11,qCh va]
  have e1:decide (plC L 12=0∨(Lib.trimB x.opt 60=[]∧x.od=[60])∨x.od=digitS x.opt)=decide (f≠3∨x.od=digitS x.opt∨(trimF x.opt=[]∧x.od=[60])):=by
   rw [decide_eq_decide,hp,trimB_nil]
   constructor
   ·rintro (h | h | h)
    ·exact .inl h
    ·exact .inr (.inr h)
    ·exact .inr (.inl h)
   ·rintro (h | h | h)
    ·exact .inl h
    ·exact .inr (.inr h)
    ·exact .inr (.inl h)
  rw [e1]
  have e2:(x.comp == digitS x.all)=decide (x.comp=digitS x.all):=by by_cases h:x.comp=digitS x.all <;> simp [h]
  rw [e2]
 unfold coreG coreZ
 rw [hr,h0,h1,h2,h3,h4,h5,h6,h8,h9,h11,h13,numG_numF f x v3 v11,split_agree]
 rfl
theorem validS_app {s u:List UInt8} (h:validS s=true) (k:validS u=true):validS (s++u)=true:=validS_mem.2 fun c hc=>by
 rcases List.mem_append.1 hc with h' | h'
 ·exact validS_mem.1 h c h'
 ·exact validS_mem.1 k c h'
theorem cutS_drop (s:List UInt8) (a b:Nat) (h:s.length≤b):cutS s a b=s.drop a:=by unfold cutS;rw [List.take_of_length_le h]
theorem agree1 (a b c:List UInt8) (ha:a.length=30) (hb:b.length=30) (hc:c.length=30) (va:validS a=true) (vb:validS b=true):coreG 1 (layD 1) [a,b,c] (compG [a,b,c])=coreZ 1 (fld1 a b c):=by
 have hcc:cutS c 0 30=c:=by rw [cutS_drop c 0 30 (by omega)];rfl
 refine core_agree 1 _ _ _ _ rfl rfl (Eq.trans rfl hcc) rfl rfl rfl rfl rfl rfl rfl rfl rfl rfl rfl rfl (by decide) (qAr _ _ va) (qAr _ _ vb) (qAr _ _ vb) (qAr _ _ va) ?_ ?_
 ·exact validS_app (validS_app (validS_app (qAr _ _ va) (qAr _ _ vb)) (qAr _ _ vb)) (qAr _ _ vb)
 ·show a.drop 5++b.take 7++cutL b (8:Nat) (15:Nat)++cutL b (18:Nat) (29:Nat)=cutS a 5 30++cutS b 0 7++cutS b 8 15++cutS b 18 29
  rw [cutL_cutS,cutL_cutS,cutS_drop a 5 30 (by omega)]
  rfl
theorem agree2 (a b:List UInt8) (ha:a.length=36) (hb:b.length=36) (va:validS a=true) (vb:validS b=true):coreG 2 (layD 2) [a,b] (compG [a,b])=coreZ 2 (fld2 a b):=by
 refine core_agree 2 _ _ _ _ rfl rfl rfl rfl rfl rfl rfl rfl rfl rfl rfl rfl rfl rfl rfl (by decide) (qAr _ _ vb) (qAr _ _ vb) (qAr _ _ vb) (qAr _ _ vb) ?_ ?_
 ·exact validS_app (validS_app (qAr _ _ vb) (qAr _ _ vb)) (qAr _ _ vb)
 ·show b.take 10++cutL b (13:Nat) (20:Nat)++cutL b (21:Nat) ((b.length:Int)-1)=cutS b 0 10++cutS b 13 20++cutS b 21 35
  have e:((b.length:Int)-1)=((35:Nat):Int):=by omega
  rw [e,cutL_cutS,cutL_cutS]
  rfl
theorem agree3 (a b:List UInt8) (ha:a.length=44) (hb:b.length=44) (va:validS a=true) (vb:validS b=true):coreG 3 (layD 3) [a,b] (compG [a,b])=coreZ 3 (fld3 a b):=by
 refine core_agree 3 _ _ _ _ rfl rfl rfl rfl rfl rfl rfl rfl rfl rfl rfl rfl rfl rfl rfl (by decide) (qAr _ _ vb) (qAr _ _ vb) (qAr _ _ vb) (qAr _ _ vb) ?_ ?_
 ·exact validS_app (validS_app (qAr _ _ vb) (qAr _ _ vb)) (qAr _ _ vb)
 ·show b.take 10++cutL b (13:Nat) (20:Nat)++cutL b (21:Nat) ((b.length:Int)-1)=cutS b 0 10++cutS b 13 20++cutS b 21 43
  have e:((b.length:Int)-1)=((43:Nat):Int):=by omega
  rw [e,cutL_cutS,cutL_cutS]
  rfl
theorem fldG_len (L:List Int) (ls:List (List UInt8)) (i:Nat) (h:∀ k,(ls.getD k []).length≤1000):(fldG L ls i).length≤1000:=by
 unfold fldG
 split
 ·simp
 ·have h1:=h (plA L i).toNat
  unfold cutS
  simp only [List.length_drop,List.length_take]
  omega
theorem fifteen {i:Nat} (h:i < 15):i=0∨i=1∨i=2∨i=3∨i=4∨i=5∨i=6∨i=7∨i=8∨i=9∨i=10∨i=11∨i=12∨i=13∨i=14:=by omega
theorem okS1 (a b c:List UInt8) (ha:a.length=30) (hb:b.length=30) (hc:c.length=30) (hln:∀ k,(([a,b,c]:List (List UInt8)).getD k []).length≤1000):OkS (layD 1) [a,b,c]:=by
 refine ⟨rfl,fun i hi=>?_,fun i hi=>fldG_len _ _ _ hln,by decide,by decide,by decide⟩
 rcases fifteen hi with rfl | rfl | rfl | rfl | rfl | rfl | rfl | rfl | rfl | rfl | rfl | rfl | rfl | rfl | rfl <;> first | exact Or.inl rfl | (refine Or.inr ?_;simp [plA,plB,plC,layD,ha,hb,hc])
theorem okS2 (a b:List UInt8) (ha:a.length=36) (hb:b.length=36) (hln:∀ k,(([a,b]:List (List UInt8)).getD k []).length≤1000):OkS (layD 2) [a,b]:=by
 refine ⟨rfl,fun i hi=>?_,fun i hi=>fldG_len _ _ _ hln,by decide,by decide,by decide⟩
 rcases fifteen hi with rfl | rfl | rfl | rfl | rfl | rfl | rfl | rfl | rfl | rfl | rfl | rfl | rfl | rfl | rfl <;> first | exact Or.inl rfl | (refine Or.inr ?_;simp [plA,plB,plC,layD,ha,hb])
theorem okS3 (a b:List UInt8) (ha:a.length=44) (hb:b.length=44) (hln:∀ k,(([a,b]:List (List UInt8)).getD k []).length≤1000):OkS (layD 3) [a,b]:=by
 refine ⟨rfl,fun i hi=>?_,fun i hi=>fldG_len _ _ _ hln,by decide,by decide,by decide⟩
 rcases fifteen hi with rfl | rfl | rfl | rfl | rfl | rfl | rfl | rfl | rfl | rfl | rfl | rfl | rfl | rfl | rfl <;> first | exact Or.inl rfl | (refine Or.inr ?_;simp [plA,plB,plC,layD,ha,hb])
theorem shape_inv {ls:List (List UInt8)} (h:shapeF ls≠0):(∃ a b c,ls=[a,b,c]∧a.length=30∧b.length=30∧c.length=30∧shapeF ls=1)∨(∃ a b,ls=[a,b]∧a.length=36∧b.length=36∧shapeF ls=2)∨(∃ a b,ls=[a,b]∧a.length=44∧b.length=44∧shapeF ls=3):=by
 unfold shapeF at h ⊢
 rcases ls with _ | ⟨a,_ | ⟨b,_ | ⟨c,_ | ⟨d,l⟩⟩⟩⟩
 ·exact absurd rfl h
 ·exact absurd rfl h
 ·right
  simp only at h ⊢
  by_cases h1:a.length=36∧b.length=36
  ·rw [if_pos h1];exact .inl ⟨a,b,rfl,h1.1,h1.2,rfl⟩
  ·rw [if_neg h1] at h ⊢
   by_cases h2:a.length=44∧b.length=44
   ·rw [if_pos h2];exact .inr ⟨a,b,rfl,h2.1,h2.2,rfl⟩
   ·rw [if_neg h2] at h;exact absurd rfl h
 ·left
  simp only at h ⊢
  by_cases h1:a.length=30∧b.length=30∧c.length=30
  ·rw [if_pos h1];exact ⟨a,b,c,rfl,h1.1,h1.2.1,h1.2.2,rfl⟩
  ·rw [if_neg h1] at h;exact absurd rfl h
 ·exact absurd rfl h
theorem getD_le {ls:List (List UInt8)} {n:Nat} (h:∀ s,s∈ls→s.length≤n) (k:Nat):(ls.getD k []).length≤n:=by
 rw [List.getD_eq_getElem?_getD]
 cases hk:ls[k]? with
 | none=>simp
 | some s=>exact h s (List.mem_of_getElem? hk)
theorem ZParse_spec (ls:List (List UInt8)) (hl:ls.length≤1000):Spec Tryz.prog 90 [.d (.sl 1 (strsD ls))] [] (fun r h'=>r=.tup [zAV (parseZ ls).1,.d (.int .i64 (parseZ ls).2)]∧h'=[]):=by
 by_cases h0:shapeF ls=0
 ·have hp:parseZ ls=(zon0,2):=by unfold parseZ;rw [if_pos h0]
  rw [hp]
  exact Parse_bad ls (by omega) h0
 have fin:∀ (f:Int) (z:Zon×Int),(if ls.all validS=false then (zon0,12) else z)=parseZ ls→Spec Tryz.prog 90 [.d (.sl 1 (strsD ls))] [] (fun r h'=>r=.tup [zAV (if ls.all validS=false then (zon0,12) else z).1,.d (.int .i64 (if ls.all validS=false then (zon0,12) else z).2)]∧h'=[])→Spec Tryz.prog 90 [.d (.sl 1 (strsD ls))] [] (fun r h'=>r=.tup [zAV (parseZ ls).1,.d (.int .i64 (parseZ ls).2)]∧h'=[]):=fun f z h S=>by rw [h] at S;exact S
 have hv:∀ (z w:Zon×Int),(ls.all validS=true→z=w)→(if ls.all validS=false then (zon0,12) else z)=(if ls.all validS=false then (zon0,12) else w):=fun z w h=>by
  cases hh:ls.all validS
  ·rfl
  ·rw [h hh]
 rcases shape_inv h0 with ⟨a,b,c,rfl,ha,hb,hc,hs⟩ | ⟨a,b,rfl,ha,hb,hs⟩ | ⟨a,b,rfl,ha,hb,hs⟩
 ·have hln:=getD_le (ls:=[a,b,c]) (n:=1000) (by intro s hs;simp at hs;rcases hs with rfl | rfl | rfl <;> omega)
  refine fin 1 _ ?_ (Parse_walk _ 1 (compG [a,b,c]) (by simp) hs (by decide) (okS1 a b c ha hb hc hln) hln ?_ (composed3_spec (layD 1) a b c rfl ha hb))
  ·unfold parseZ
   rw [if_neg h0]
   refine hv _ _ fun hh=>?_
   simp only [List.all_cons,Bool.and_eq_true] at hh
   exact agree1 a b c ha hb hc hh.1 hh.2.1
  ·simp [compG,cutL];omega
 ·have hln:=getD_le (ls:=[a,b]) (n:=1000) (by intro s hs;simp at hs;rcases hs with rfl | rfl <;> omega)
  refine fin 2 _ ?_ (Parse_walk _ 2 (compG [a,b]) (by simp) hs (by decide) (okS2 a b ha hb hln) hln ?_ (composed2_spec (layD 2) a b rfl (.inl hb)))
  ·unfold parseZ
   rw [if_neg h0]
   refine hv _ _ fun hh=>?_
   simp only [List.all_cons,Bool.and_eq_true] at hh
   show _=if a.length=36 then coreZ 2 (fld2 a b) else coreZ 3 (fld3 a b)
   rw [if_pos ha]
   exact agree2 a b ha hb hh.1 hh.2.1
  ·simp [compG,cutL];omega
 ·have hln:=getD_le (ls:=[a,b]) (n:=1000) (by intro s hs;simp at hs;rcases hs with rfl | rfl <;> omega)
  refine fin 3 _ ?_ (Parse_walk _ 3 (compG [a,b]) (by simp) hs (by decide) (okS3 a b ha hb hln) hln ?_ (composed2_spec (layD 3) a b rfl (.inr hb)))
  ·unfold parseZ
   rw [if_neg h0]
   refine hv _ _ fun hh=>?_
   simp only [List.all_cons,Bool.and_eq_true] at hh
   show _=if a.length=36 then coreZ 2 (fld2 a b) else coreZ 3 (fld3 a b)
   rw [if_neg (by omega)]
   exact agree3 a b ha hb hh.1 hh.2.1
  ·simp [compG,cutL];omega
end Tdoc
namespace Tdoc
open Go Go.Proofs
def chunkN (n:Nat) (es:List (List Dat)):Nat:=(es.length+(n-1)) / n
def chunkA (n:Nat) (es:List (List Dat)) (k:Nat):AV:=.d (.sl 1 ((es.drop (k*n)).take n))
def chunksA (n:Nat) (es:List (List Dat)):List AV:=(List.range (chunkN n es)).map (chunkA n es)
theorem chunk_lt {n:Nat} {es:List (List Dat)} {k:Nat} (hn:1≤n):k < chunkN n es↔k*n < es.length:=by
 unfold chunkN
 rw [← Nat.succ_le_iff,Nat.le_div_iff_mul_le (by omega),Nat.succ_mul]
 omega
theorem chunk1_spec (i j n:Nat) (es:List (List Dat)) (hn:1≤n∧n≤1000000000) (hl:es.length≤1000000000) :
  SeqOk Tryz.prog 150 [.ptr i 0,.ptr j 0] (fun h=>h[i]?=some (.row [.d (.sl 1 es)])∧h[j]?=some (.row [.d (.int .i64 (n:Int))])) (chunksA n es):=by
 refine Seq_of_body Tryz.func150 rfl rfl rfl rfl ?_
 intro E l Hs hok hY
 have hlen:(chunksA n es).length=chunkN n es:=by simp [chunksA]
 rw [hlen]
 refine AWF_seq (AWF_region (.inl rfl) rfl ?_)
 refine wws ?_
 refine AWF_block (AWF_loopL (ι:=Nat) (fun k=>[(0,.fn (.yield l) [] []),(1,.ptr i 0),(2,.ptr j 0),(4,.d (.int .i64 ((k*n:Nat):Int)))]) (fun k=>Hs k) (fun k=>k≤chunkN n es) (fun k=>chunkN n es-k) 0 (Nat.zero_le _) ⟨.refl _,.refl _,.refl _,AV.le.int (by simp),trivial⟩ (HLe.refl _) ?_)
 intro k hk
 obtain ⟨h1,h2⟩:=hok k
 have hlt:=chunk_lt (n:=n) (es:=es) (k:=k) hn.1
 have hkn:k*n≤es.length+n:=by
  by_cases h0:k=0
  ·subst h0;simp
  ·have:(k-1)*n < es.length:=(chunk_lt hn.1).1 (by omega)
   have h3:k*n=(k-1)*n+n:=by rw [← Nat.succ_mul];congr 1;omega
   omega
 refine AWF_seq (AWF_seq (AWF_region (.inl rfl) rfl ?_))
 refine wws ?_
 refine qAd (qBd hT rfl rfl h1 rfl rfl rfl) rfl ?_
 refine wws ?_
 refine AWF_condL rfl (fun c1=>?_) (fun c1=>?_)
 ·have c1':k*n < es.length:=Int.ofNat_lt.1 (of_decide_eq_true c1)
  have hk':=hlt.2 c1'
  have hy:=hY k (chunkA n es k) (by simp [chunksA,hk'])
  refine AWF_skip ?_
  refine AWF_seq (AWF_block (AWF_seq ?_))
  refine AWF_drawG (.inl rfl) (fun _=>List.range (Hs k).length) (fun _=>[]) mixed rfl (by kernel_rfl) ?_
  refine qAp (qBd hT rfl rfl h2 rfl rfl rfl) rfl rfl ?_
  refine qAp (qBd hT rfl rfl h1 rfl rfl rfl) rfl rfl ?_
  refine wws ?_
  refine qAp (qAc (min2_ok (t2:=#[]) rfl rfl rfl)) rfl rfl ?_
  refine wws ?_
  have hmn:(if (((es.drop (k*n)).length:Nat):Int) < (n:Int) then (((es.drop (k*n)).length:Nat):Int) else (n:Int))=((min n (es.length-k*n):Nat):Int):=by
   rw [List.length_drop];split <;> omega
  have htk:(es.drop (k*n)).take (k*n+min n (es.length-k*n)-k*n)=(es.drop (k*n)).take n:=by
   rw [Nat.add_sub_cancel_left]
   rcases Nat.le_total n (es.length-k*n) with h | h
   ·rw [Nat.min_eq_left h]
   ·rw [Nat.min_eq_right h,List.take_of_length_le (by simp),List.take_of_length_le (by simp;omega)]
  refine AWF_subL (l:=[(0,.fn (.yield l) [] []),(1,.ptr i 0),(2,.ptr j 0),(4,.d (.int .i64 ((k*n:Nat):Int))),(5,.d (.int .i64 ((min n (es.length-k*n):Nat):Int)))]) (h':=Hs k) ⟨.refl _,.refl _,.refl _,.refl _,AV.le.int hmn,trivial⟩ (HLe.refl _) ?_
  refine AWF_seq (AWF_regionF (.inl rfl) ?_)
  have hadd:IntKind.i64.wrap (((k*n:Nat):Int)+((min n (es.length-k*n):Nat):Int))=((k*n+min n (es.length-k*n):Nat):Int):=by rw [qAe (by omega)];omega
  refine AWkF_pre (.inl rfl) (pre:=[_,_,_,_,_,_,_,_,_,_]) _ _ rfl ?_
  refine wws ?_
  refine qAd (qBd hT rfl rfl h1 rfl rfl rfl) rfl ?_
  refine wws ?_
  refine qAd (qAc (cut3_ok (l:=k*n) (r:=k*n+min n (es.length-k*n)) hT rfl rfl rfl rfl (by exact congrArg (fun z=>AV.d (.int .i64 z)) hadd) (by exact congrArg (fun z=>AV.d (.int .i64 z)) hadd) (by omega) rfl)) rfl ?_
  rw [htk]
  refine wws ?_
  refine AWkF_op (yield_op rfl rfl rfl hy) rfl ?_
  refine AWkF_all (.inl rfl) _ _ _ rfl ?_
  refine wws ?_
  refine AWF_condL rfl (fun c2=>?_) (fun c2=>?_)
  ·exact absurd c2 (by simp)
  refine AWF_skip ?_
  refine AWF_region (.inl rfl) rfl ?_
  refine wws ?_
  obtain ⟨h1',h2'⟩:=hok (k+1)
  refine qAd (qBd hT rfl rfl h2' rfl rfl rfl) rfl ?_
  refine wws ?_
  exact ⟨k+1,hk',by omega,⟨.refl _,.refl _,.refl _,AV.le.int (by rw [qAe (by omega),Nat.succ_mul];omega),trivial⟩,HLe.refl _⟩
 ·have c1':¬ k*n < es.length:=fun h=>(of_decide_eq_false c1) (Int.ofNat_lt.2 h)
  have hk':k=chunkN n es:=by
   have:¬ k < chunkN n es:=fun h=>c1' (hlt.1 h)
   omega
  subst hk'
  exact AWF_exit ⟨.inl rfl,rfl⟩
end Tdoc
namespace Tdoc
open Go Go.Proofs
theorem Chunk_spec (es:List (List Dat)) (n:Nat) (hn:1≤n∧n≤1000000000):Spec Tryz.prog 89 [.d (.sl 1 es),.d (.int .i64 (n:Int))] [.room,.room]
  (fun r h'=>r=.fn (.func 150) [] [.ptr 0 0,.ptr 1 0]∧h'=[.row [.d (.sl 1 es)],.row [.d (.int .i64 (n:Int))]]):=by
 refine qAb hT Tryz.func89 rfl rfl rfl rfl ?_;intro E hE
 refine qAu (qAn ?_)
 refine qAd (qCg (i0:=0) rfl rfl rfl) rfl ?_
 refine qAd (qCg (i0:=1) rfl rfl rfl) rfl ?_
 refine ww ?_
 refine qAa rfl (fun c1=>?_) (fun c1=>?_)
 ·exact absurd c1 (by simp;omega)
 refine ww ?_
 exact wwr
def chunkB (n:Nat) (v:List UInt8) (k:Nat):List (List UInt8):=(List.range k).map fun j=>(v.drop (j*n)).take n
theorem chunkB_succ (n:Nat) (v:List UInt8) (k:Nat):strsD (chunkB n v (k+1))=strsD (chunkB n v k)++[[.str ((v.drop (k*n)).take n)]]:=by
 unfold strsD chunkB
 rw [List.range_succ,List.map_append,List.map_append];rfl
theorem chunkB_len (n:Nat) (v:List UInt8) (k:Nat):(strsD (chunkB n v k)).length=k:=by simp [strsD,chunkB]
def zoneP (b:List UInt8):Zon×Int :=
 if (openY b 1).2≠0 then (zon0,(openY b 1).2) else if (primL (openY b 1).1 24351).2≠0 then (zon0,(primL (openY b 1).1 24351).2) else zoneT (primL (openY b 1).1 24351).1
theorem zoneT_chunk (v:List UInt8):zoneT v=if v.length=90 then parseZ (chunkB 30 v 3) else if v.length=72 then parseZ (chunkB 36 v 2) else if v.length=88 then parseZ (chunkB 44 v 2) else (zon0,2):=by
 have h:∀ (a n:Nat),(v.drop a).take n=cutS v a (a+n):=fun a n=>by unfold cutS;rw [List.drop_take];congr 1;omega
 have e3:chunkB 30 v 3=[cutS v 0 30,cutS v 30 60,cutS v 60 90]:=by
  show [(v.drop 0).take 30,(v.drop 30).take 30,(v.drop 60).take 30]=_
  rw [h,h,h]
 have e2:chunkB 36 v 2=[cutS v 0 36,cutS v 36 72]:=by
  show [(v.drop 0).take 36,(v.drop 36).take 36]=_
  rw [h,h]
 have e1:chunkB 44 v 2=[cutS v 0 44,cutS v 44 88]:=by
  show [(v.drop 0).take 44,(v.drop 44).take 44]=_
  rw [h,h]
 unfold zoneT
 rw [e3,e2,e1]
theorem OpenZone_spec (b:List UInt8) (hb:b.length≤9223372036854775807):Spec Tryz.prog 38 [.d (.sl 1 (encB b))] []
  (fun r h'=>r=.tup [zAV (zoneP b).1,.d (.int .i64 (zoneP b).2)]∧h'=[]):=by
 have ho:=open_spec b 1 (by omega)
 unfold zoneP
 generalize openY b 1=q at ho
 obtain ⟨l,e⟩:=q
 simp only at ho ⊢
 have hpr:=primitive_spec l 24351
 generalize primL l 24351=pq at hpr
 obtain ⟨v,e2⟩:=pq
 simp only at hpr ⊢
 have hzt:=zoneT_chunk v
 generalize hfin:(if e≠0 then (zon0,e) else if e2≠0 then (zon0,e2) else zoneT v)=fin
 refine Spec_of_bodyX hT Tryz.func38 rfl rfl rfl rfl ?_
 intro E hE
 refine AWx_seq ?_
 refine ww ?_
 refine AWx_seq ?_
 refine ww ?_
 refine wwc ho ?_
 refine ww ?_
 refine AWx_seq ?_
 refine ww ?_
 refine qAa rfl (fun c1=>?_) (fun c1=>?_)
 ·rw [if_pos (by simpa using c1)] at hfin
  subst hfin
  refine ww ?_
  exact wwr
 rw [if_neg (by simpa using c1)] at hfin
 refine ww ?_
 refine AWx_seq ?_
 refine ww ?_
 refine wwc hpr ?_
 refine ww ?_
 refine AWx_seq ?_
 refine ww ?_
 refine qAa rfl (fun c2=>?_) (fun c2=>?_)
 ·rw [if_pos (by simpa using c2)] at hfin
  subst hfin
  refine ww ?_
  exact wwr
 rw [if_neg (by simpa using c2),hzt] at hfin
 refine ww ?_
 refine AWx_seq ?_
 refine ww ?_
 have hvl:(encB v).length=v.length:=qAl v
 refine AWx_seq_cut (ι:=Nat×Nat) (fun x=>[(2,.ptr 0 0),(6,.d (.sl 1 (encB v))),(7,.d (.int .i64 (x.1:Int)))]) (fun _=>[.row (zCells zon0)])
  (fun x=>(1≤x.1∧x.1≤1000)∧chunkN x.1 (encB v)=x.2∧(x.2≤3∧v.length≤90)∧parseZ (chunkB x.1 v x.2)=fin) ?_ ?_
 ·refine ww ?_
  refine qAa rfl (fun d1=>?_) (fun d1=>?_)
  ·have d1':v.length=90:=by rw [hvl] at d1;simp at d1;omega
   rw [if_pos d1'] at hfin
   refine ww ?_
   exact ⟨(30,3),⟨⟨by omega,by omega⟩,by unfold chunkN;rw [hvl,d1'];rfl,⟨by omega,by omega⟩,hfin⟩,⟨.refl _,.refl _,.refl _,trivial⟩,HLe.refl _⟩
  have d1':¬ v.length=90:=by rw [hvl] at d1;simp at d1;omega
  rw [if_neg d1'] at hfin
  refine ww ?_
  refine qAa rfl (fun d2=>?_) (fun d2=>?_)
  ·have d2':v.length=72:=by rw [hvl] at d2;simp at d2;omega
   rw [if_pos d2'] at hfin
   refine ww ?_
   exact ⟨(36,2),⟨⟨by omega,by omega⟩,by unfold chunkN;rw [hvl,d2'];rfl,⟨by omega,by omega⟩,hfin⟩,⟨.refl _,.refl _,.refl _,trivial⟩,HLe.refl _⟩
  have d2':¬ v.length=72:=by rw [hvl] at d2;simp at d2;omega
  rw [if_neg d2'] at hfin
  refine ww ?_
  refine qAa rfl (fun d3=>?_) (fun d3=>?_)
  ·have d3':v.length=88:=by rw [hvl] at d3;simp at d3;omega
   rw [if_pos d3'] at hfin
   refine ww ?_
   exact ⟨(44,2),⟨⟨by omega,by omega⟩,by unfold chunkN;rw [hvl,d3'];rfl,⟨by omega,by omega⟩,hfin⟩,⟨.refl _,.refl _,.refl _,trivial⟩,HLe.refl _⟩
  have d3':¬ v.length=88:=by rw [hvl] at d3;simp at d3;omega
  rw [if_neg d3'] at hfin
  subst hfin
  refine ww ?_
  exact wwr
 rintro ⟨n,kk⟩ ⟨hn,hkk,hk3,hpz⟩
 simp only at hn hkk hk3 hpz ⊢
 obtain ⟨hk3,hv90⟩:=hk3
 refine AWx_seq ?_
 refine ww ?_
 have hck:=Chunk_spec (encB v) n (by omega)
 have hsq:=chunk1_spec 2 3 n (encB v) (by omega) (by rw [hvl];omega)
 obtain ⟨Hs,hHs⟩:∃ Hs:Nat→List AObj,Hs=fun k=>[.row (zCells zon0),.row [.sl 1 (strsD (chunkB n v k)) (.right 4)],.row [.d (.sl 1 (encB v))],.row [.d (.int .i64 (n:Int))],.right 1 (strsD (chunkB n v k)).length]:=⟨_,rfl⟩
 have hxl:(chunksA n (encB v)).length=kk:=by simp [chunksA,hkk]
 refine AWx_seq2 (Qx:=fun e τ' h'=>e=.normal∧SubL τ' [(2,.ptr 0 0),(8,.ptr 1 0)]∧h'=Hs kk) (AWx_seq ?_) ?_ ?_
 ·refine qAo (qAo (qAo (qDn 1 0 4 1 rfl rfl rfl ?_)))
  refine ww ?_
  refine qAd (callS1v rfl rfl hck [2,3] (by decide) rfl rfl rfl rfl rfl rfl rfl) rfl ?_
  refine ww ?_
  refine AWx_subL (l:=[(39,.fn (.func 150) [] [.ptr 2 0,.ptr 3 0]),(2,.ptr 0 0),(8,.ptr 1 0)]) ⟨.refl _,.refl _,.refl _,trivial⟩ (HLe.refl _) ?_
  refine AWx_block (AWx_rangeB Hs rfl hsq (by rw [hHs];rfl) (fun k=>by rw [hHs];exact ⟨rfl,rfl⟩) rfl (fun k=>by rw [hHs];rfl) (fun k=>by rw [hHs];rfl)
   (fun x=>look ((9,x)::(40,x)::[(39,.fn (.func 150) [] [.ptr 2 0,.ptr 3 0]),(2,.ptr 0 0),(8,.ptr 1 0)])) ?_ ?_ ?_)
  ·rintro k x hx E' l
   have hx':x=chunkA n (encB v) k:=by
    have hlt:k < chunkN n (encB v):=by have:=(List.getElem?_eq_some_iff.1 hx).1;simpa [chunksA] using this
    simp [chunksA,hlt] at hx
    exact hx.symm
   subst hx'
   refine AWF_region (.inr ⟨l,rfl⟩) rfl ?_
   show AWk _ _ _ _ _ _ (look ((40,chunkA n (encB v) k)::[(39,.fn (.func 150) [] [.ptr 2 0,.ptr 3 0]),(2,.ptr 0 0),(8,.ptr 1 0)])) _
   refine wws ?_
   exact ⟨rfl,rfl,rfl⟩
  ·rintro k x hx E' l hE'
   have hx':x=.d (.sl 1 (encB ((v.drop (k*n)).take n))):=by
    have hlt:k < chunkN n (encB v):=by have:=(List.getElem?_eq_some_iff.1 hx).1;simpa [chunksA] using this
    simp [chunksA,hlt] at hx
    rw [← hx]
    unfold chunkA encB
    rw [List.map_take,List.map_drop]
   subst hx'
   have hk2:k < 3:=by have:=(List.getElem?_eq_some_iff.1 hx).1;omega
   have hcl:=chunkB_len n v k
   refine AWF_subL (l:=[(9,.d (.sl 1 (encB ((v.drop (k*n)).take n)))),(8,.ptr 1 0)]) ⟨.refl _,.refl _,trivial⟩ (HLe.refl _) ?_
   have hsu:=chunkB_succ n v k
   subst hHs
   refine AWF_block (AWF_region (.inr ⟨l,rfl⟩) rfl ?_)
   refine wws ?_
   refine qCa hT rfl rfl (qBk _) ?_
   rw [qBp]
   refine wws ?_
   refine qAd (qAk (i:=4) hT rfl rfl rfl rfl rfl rfl (by show ((strsD (chunkB n v k)).length+1)*(16+1)≤_;omega)) rfl ?_
   refine wws ?_
   exact ⟨rfl,[],⟨ObLe.refl _,⟨AV.le.slt hsu.symm,trivial⟩,ObLe.refl _,ObLe.refl _,⟨rfl,by rw [hsu]⟩,trivial⟩⟩
  ·exact ⟨rfl,⟨.refl _,.refl _,trivial⟩,by rw [hxl]⟩
 ·rintro E2 hE2 τ' h' ⟨_,hs,rfl⟩
  subst hHs
  refine AWx_subL (h':=[.row (zCells zon0),.row [.d (.sl 1 (strsD (chunkB n v kk)))],.dead,.dead,.dead]) hs ⟨ObLe.refl _,⟨AV.le.dat,trivial⟩,trivial,trivial,trivial,trivial⟩ ?_
  have hps:=ZParse_spec (chunkB n v kk) (by simp [chunkB];omega)
  rw [hpz] at hps
  refine AWx_of ?_
  refine ww ?_
  refine wwc hps ?_
  refine ww ?_
  exact wwr
 ·rintro e τ' h' he ⟨h1,_⟩
  exact absurd h1 he
end Tdoc
namespace Tdoc
open Go Go.Proofs
end Tdoc
namespace Tdoc
open Go Go.Proofs
end Tdoc
namespace Tdoc
open Go Go.Proofs
end Tdoc
namespace Tdoc
open Go Go.Proofs
theorem zoneL_many {l:List Node} (h:l.length≠1):zoneL l=(zon0,1):=by
 match l,h with
 | [],_=>rfl
 | [_],h=>exact absurd rfl h
 | _::_::_,_=>rfl
end Tdoc
namespace Tdoc
open Go Go.Proofs
theorem zoneP_zoneO (b:List UInt8):zoneP b=zoneO b:=by
 have hz:=openZ_eq b 1
 have hwf:=openY_wf b 1
 unfold zoneO zoneP
 rw [hz.1,hz.2]
 generalize openY b 1=q at hwf
 obtain ⟨l,e⟩:=q
 simp only at hwf ⊢
 by_cases h1:e≠0
 ·rw [if_pos h1,if_pos h1]
 rw [if_neg h1,if_neg h1]
 by_cases h2:l.length=1
 case neg=>rw [zoneL_many h2,primL_many h2];rfl
 obtain ⟨t',v,k,rfl⟩:∃ t v k,l=[.mk t v k]:=match l,h2 with
  | [.mk t v k],_=>⟨t,v,k,rfl⟩
 have hw:=hwf _ (List.mem_singleton.mpr rfl)
 have hp:=primF_any (t':=t') (t:=24351) (v:=v) (k:=k) (fun h=>hw.prim (by rw [h];rfl))
 unfold zoneL primL
 simp only [valN]
 by_cases h4:t'=24351
 ·rw [if_pos (hp.mpr h4),if_pos h4];rfl
 ·rw [if_neg (fun h=>h4 (hp.mp h)),if_neg h4];rfl
end Tdoc
namespace Tdoc
open Go Go.Proofs
theorem tagsB_append (a b:List Node):tagsB (a++b)=tagsB a++tagsB b:=by simp [tagsB]
theorem detsN_append (a b:List Node):detsN (a++b)=detsN a++detsN b:=by simp [detsN]
theorem tagsB_len:∀ (r:List Node),(tagsB r).length=2*r.length
 | []=>rfl
 | x::r=>by
  have ih:=tagsB_len r
  show (bOf (tagN x / 256)::bOf (tagN x)::tagsB r).length=_
  simp only [List.length_cons,ih];omega
theorem tag_range {d:Nat} {x:Node} (h:WfN d x):0 < tagN x∧tagN x < 65536:=by
 obtain ⟨t,v,k⟩:=x
 exact tagOk_range (chkN_inv h).1
def detB2 (n:Int) (l:List Node):Int×List Det×Int:=match l with
 | []=>(0,[],1)
 | x::r=>if tagN x≠92 then (0,[],1) else if (r.all fun y=>!tagCons (tagN y))=false then (0,[],1) else if tagsB r≠valN x then (0,[],1)
  else if chkDs n (detsN r)≠0 then (0,[],chkDs n (detsN r)) else (n,detsN r,0)
def detP (b:List UInt8):Int×List Det×Int :=
 if (openX b).2.2≠0 then (0,[],(openX b).2.2) else if ¬ ((openX b).1=11∨(openX b).1=12) then (0,[],4) else detB2 (openX b).1 (openX b).2.1
theorem OpenDet_spec (b:List UInt8) (hb:b.length≤9223372036854775807):Spec Tryz.prog 40 [.d (.sl 1 (encB b))] []
  (fun r h'=>r=.tup [.d (.int .i64 (detP b).1),.d (.sl 2 (encDs (detP b).2.1)),.d (.int .i64 (detP b).2.2)]∧h'=[]):=by
 have ho:=Open_spec b (by omega)
 have hwg:=openX_wg b
 have hwf:∀ x,x∈(openX b).2.1→-9223372036854775808≤tagN x∧tagN x≤9223372036854775807:=fun x hx=>by
  have:=tag_range (openX_wf b x hx)
  omega
 unfold detP
 generalize openX b=q at ho hwg hwf
 obtain ⟨n,l,e⟩:=q
 simp only at ho hwg hwf ⊢
 by_cases h1:e=0
 case neg =>
  have hn:(e == 0)=false:=by simpa using h1
  rw [if_pos h1]
  refine qAb hT Tryz.func40 rfl rfl rfl rfl ?_;intro E hE
  refine ww ?_
  refine wwc ho ?_
  refine wwk hn ?_
  refine qAa rfl (fun c1=>?_) (fun c1=>?_)
  ·exact absurd c1 (by rw [hn];simp)
  refine ww ?_
  refine qAa rfl (fun c2=>?_) (fun c2=>?_)
  ·refine ww ?_
   exact wwr
  ·exact absurd (by simpa using c2) h1
 subst h1
 rw [if_neg (by omega)]
 by_cases h2:n=11∨n=12
 case neg =>
  have hnb:=detailed_none n h2
  rw [if_pos h2]
  refine qAb hT Tryz.func40 rfl rfl rfl rfl ?_;intro E hE
  refine ww ?_
  refine wwc ho ?_
  refine ww ?_
  refine wwgc hnb ?_
  refine ww ?_
  refine qBq rfl rfl rfl (fun hg=>⟨(sg (C:=True) hg).1,qAc (sliceNil_ok rfl rfl Tryz.underlying22 rfl)⟩) ?_
  refine ww ?_
  refine qAa rfl (fun c1=>?_) (fun c1=>?_)
  ·refine ww ?_
   refine qAa rfl (fun c2=>?_) (fun c2=>?_)
   ·refine ww ?_
    exact wwr
   ·exact absurd c2 (by simp)
  ·exact absurd c1 (by simp)
 rw [if_neg (by omega)]
 have hdt:=detailed_spec n h2
 obtain ⟨d0,dl,hde⟩:∃ d0 dl,encI (deT n)=d0::dl:=by rcases h2 with rfl | rfl <;> exact ⟨_,_,rfl⟩
 rw [hde] at hdt
 have hlen:=qAm l
 generalize hfin:detB2 n l=fin
 refine qAb hT Tryz.func40 rfl rfl rfl rfl ?_;intro E hE
 refine ww ?_
 refine wwc ho ?_
 refine ww ?_
 refine wwgc hdt ?_
 refine ww ?_
 refine qBq rfl rfl rfl (fun hg=>⟨(sg (C:=True) hg).1,qAc (sliceNil_ok rfl rfl Tryz.underlying22 rfl)⟩) ?_
 refine ww ?_
 refine qAa rfl (fun c1=>?_) (fun c1=>?_)
 ·exact absurd c1 (by simp)
 refine ww ?_
 refine qAa rfl (fun c2=>?_) (fun c2=>?_)
 ·exact absurd c2 (by simp)
 match l,hfin with
 | [],hfin =>
  have hn:(((encNs []).length:Int) == 0)=true:=rfl
  have hfin':((0,[],1):Int×List Det×Int)=fin:=hfin
  subst hfin'
  refine wwk hn ?_
  refine qAa rfl (fun c3=>?_) (fun c3=>?_)
  ·refine ww ?_
   exact wwr
  ·exact absurd c3 (by rw [hn];simp)
 | .mk t0 v0 k0::r,hfin =>
  have hel:(encNs (.mk t0 v0 k0::r))[((0:Int)).toNat]?=some [.int .i64 t0,.sl 1 (encB v0),.sl 3 (encNs k0)]:=rfl
  have hn1:(((encNs (.mk t0 v0 k0::r)).length:Int) == 0)=false:=by rw [hlen];simp;omega
  have hdr:cutL (encNs (.mk t0 v0 k0::r)) 1 ((encNs (.mk t0 v0 k0::r)).length:Int)=encNs r:=by
   unfold cutL
   rw [List.take_of_length_le (by simp)]
   rfl
  have hl1:1≤(encNs (.mk t0 v0 k0::r)).length:=by rw [hlen];simp
  have hlr:=qAm r
  have hwr:wgtL r≤45056:=by simp only [wgtL] at hwg;omega
  have hrl:r.length≤wgtL r:=len_wgt r
  replace hfin:(if t0≠92 then ((0,[],1):Int×List Det×Int) else if (r.all fun y=>!tagCons (tagN y))=false then (0,[],1) else if tagsB r≠v0 then (0,[],1) else if chkDs n (detsN r)≠0 then (0,[],chkDs n (detsN r)) else (n,detsN r,0))=fin:=hfin
  refine ww ?_
  refine wwgi hel ?_
  refine ww ?_
  refine qAa rfl (fun c3=>?_) (fun c3=>?_)
  ·have c3':t0≠92:=by rw [hn1] at c3;simpa using c3
   rw [if_pos c3'] at hfin
   subst hfin
   refine ww ?_
   exact wwr
  have c3':¬ t0≠92:=by rw [hn1] at c3;simpa using c3
  rw [if_neg c3'] at hfin
  refine ww ?_
  have hd1:(encNs (.mk t0 v0 k0::r)).drop ((1:Int)).toNat=encNs r:=rfl
  rw [hd1]
  refine AW_acquire 6 1 (.inr ⟨rfl,rfl⟩) ?_
  refine AW_acquire 3 2 (.inr ⟨rfl,rfl⟩) ?_
  refine qBu (ι:=Nat) (fun i=>[(2,.d (.int .i64 n)),(5,.d (.sl 3 (encNs (.mk t0 v0 k0::r)))),(37,.d (.sl 3 (encNs r))),(38,.d (.int .i64 (r.length:Int))),(39,.d (.int .i64 (i:Int))),(6,.sl 1 (encB (tagsB (r.take i))) (.right 0)),(3,.sl 2 (encDs (detsN (r.take i))) (.right 1))])
   (fun i=>[.right 1 (encB (tagsB (r.take i))).length,.right 2 (encDs (detsN (r.take i))).length])
   (fun i=>i≤r.length∧(r.drop i).all (fun y=>!tagCons (tagN y))=r.all fun y=>!tagCons (tagN y)) (fun i=>r.length-i) 0 ⟨by omega,by simp⟩ ⟨.refl _,.refl _,.refl _,.int (by rw [hlr]),.refl _,.refl _,.refl _,trivial⟩ (HLe.refl _) ?_
  rintro i ⟨hi,hg⟩
  have hwi:IntKind.i64.wrap ((i:Int)+1)=((i+1:Nat):Int):=by rw [qAe (by omega)];simp
  have hbl:(encB (tagsB (r.take i))).length≤2000000:=by rw [qAl,tagsB_len,List.length_take];omega
  have hdl:(encDs (detsN (r.take i))).length≤1000000:=by rw [qCn];simp [detsN];omega
  have hdl2:(encDs (detsN r)).length≤1000000:=by rw [qCn];simp [detsN];omega
  refine ww ?_
  refine qAa rfl (fun c4=>?_) (fun c4=>?_)
  ·have c4':i < r.length:=by simpa using c4
   have helx:(encNs r)[((i:Int)).toNat]?=some (encN r[i]):=by rw [Int.toNat_natCast];simp [encNs_eq,c4']
   have htk1:r.take (i+1)=r.take i++[r[i]]:=List.take_succ_eq_append_getElem c4'
   have hdr2:r.drop i=r[i]::r.drop (i+1):=List.drop_eq_getElem_cons c4'
   have ht1:encB (tagsB (r.take (i+1)))=encB (tagsB (r.take i))++[[.int .u8 (IntKind.u8.wrap (Int.fdiv (tagN r[i]) (2 ^ (min (8:Int).toNat IntKind.i64.bits))))],[.int .u8 (IntKind.u8.wrap (tagN r[i]))]]:=by rw [htk1,tagsB_append,qCj,bOf_hi,bOf_wrap];rfl
   have ht2:encDs (detsN (r.take (i+1)))=encDs (detsN (r.take i))++[[.int .i64 (tagN r[i]),.str (valN r[i])]]:=by rw [htk1,detsN_append,encDs_append];rfl
   rw [hdr2,List.all_cons] at hg
   have hrng:=hwf r[i] (List.mem_cons_of_mem _ (List.getElem_mem c4'))
   generalize r[i]=y at helx ht1 ht2 hg hrng
   obtain ⟨t,v,k⟩:=y
   rw [encN] at helx
   simp only [tagN,valN] at ht1 ht2 hrng
   replace hg:(!tagCons t&&(r.drop (i+1)).all fun y=>!tagCons (tagN y))=r.all fun y=>!tagCons (tagN y):=hg
   have hcs:=qCr t hrng
   refine ww ?_
   refine wwi helx ?_
   refine ww ?_
   refine wwc hcs ?_
   refine ww ?_
   refine qAa rfl (fun c5=>?_) (fun c5=>?_)
   ·have hc:tagCons t=true:=by simpa using c5
    rw [hc,Bool.not_true,Bool.false_and] at hg
    rw [← hg,if_pos rfl] at hfin
    subst hfin
    refine ww ?_
    exact wwr
   have c5':tagCons t=false:=by simpa using c5
   rw [c5',Bool.not_false,Bool.true_and] at hg
   refine ww ?_
   refine qAd (qAk (i:=0) hT rfl rfl rfl rfl rfl rfl (by show ((encB (tagsB (r.take i))).length+2)*(1+1)≤_;first | omega | (simp only [qAl,qAm,List.length_append,List.length_cons,List.length_nil];omega))) rfl ?_
   refine ww ?_
   refine qCa hT rfl rfl (qBk v) ?_
   rw [qBp]
   refine ww ?_
   refine qAd (qAk (i:=1) hT rfl rfl rfl rfl rfl rfl (by show ((encDs (detsN (r.take i))).length+1)*(24+1)≤_;first | omega | (simp only [qAl,qAm,List.length_append,List.length_cons,List.length_nil];omega))) rfl ?_
   refine ww ?_
   exact ⟨i+1,[_],⟨c4',hg⟩,by omega,⟨.refl _,.refl _,.refl _,.refl _,.int hwi,.slt ht1.symm,.slt ht2.symm,trivial⟩,⟨⟨rfl,by rw [ht1]⟩,⟨rfl,by rw [ht2]⟩,ObLe.refl _,trivial⟩,Env.below_mono hE (by simp),rfl,rfl⟩
  have c4':i=r.length:=by simp at c4;omega
  subst c4'
  rw [List.drop_length,List.all_nil] at hg
  rw [← hg,if_neg (by simp)] at hfin
  rw [List.take_length]
  have hck:=checkD_spec n h2 (detsN r) (by rw [← qCn];exact hdl2)
  have heq:=EqualB_spec (tagsB r) v0
  refine wwe ?_
  refine AW_cut (l:=[(2,.d (.int .i64 n)),(3,.d (.sl 2 (encDs (detsN r)))),(5,.d (.sl 3 (encNs (.mk t0 v0 k0::r)))),(6,.d (.sl 1 (encB (tagsB r))))]) [] [.dead,.dead] (Env.below_mono hE (by simp)) ⟨.refl _,AV.le.dat,.refl _,AV.le.dat,trivial⟩ rfl ⟨trivial,trivial,trivial⟩ rfl ?_
  refine ww ?_
  refine wwi hel ?_
  refine ww ?_
  refine wwc heq ?_
  refine ww ?_
  refine qAa rfl (fun c6=>?_) (fun c6=>?_)
  ·have c6':tagsB r≠v0:=by simpa using c6
   rw [if_pos c6'] at hfin
   subst hfin
   refine ww ?_
   exact wwr
  have c6':¬ tagsB r≠v0:=by simpa using c6
  rw [if_neg c6'] at hfin
  refine ww ?_
  refine wwc hck ?_
  refine ww ?_
  refine qAa rfl (fun c7=>?_) (fun c7=>?_)
  ·have c7':chkDs n (detsN r)≠0:=by simpa using c7
   rw [if_pos c7'] at hfin
   subst hfin
   refine ww ?_
   exact wwr
  have c7':¬ chkDs n (detsN r)≠0:=by simpa using c7
  rw [if_neg c7'] at hfin
  subst hfin
  refine ww ?_
  exact wwr
end Tdoc
namespace Tdoc
open Go Go.Proofs
theorem kid_nil {d:Nat} {x:Node} (h:WfN d x) (hc:tagCons (tagN x)=false):kidN x=[]:=by
 obtain ⟨t,v,k⟩:=x
 exact h.prim hc
theorem detB_eq (n:Int) (hn:n=11∨n=12) (l:List Node) (hwf:∀ x,x∈l→WfN 2 x):detB2 n l=detB n l:=by
 unfold detB2 detB
 match l,hwf with
 | [],_=>rfl
 | x::r,hwf =>
  have hx:=hwf x List.mem_cons_self
  have hr:∀ y,y∈r→(0≤tagN y∧tagN y < 65536)∧(tagCons (tagN y)=false→kidN y=[]):=fun y hy=>by
   have hy':=hwf y (List.mem_cons_of_mem _ hy)
   have:=tag_range hy'
   exact ⟨by omega,kid_nil hy'⟩
  simp only
  by_cases h1:tagN x=92
  ·have hk:kidN x=[]:=kid_nil hx (by rw [h1];decide)
   have h1':¬ tagN x≠92:=fun h=>h h1
   rw [if_neg h1']
   by_cases hl:((valN x).length:Int)=2*(r.length:Int)
   ·have hp:primF x 92 (2*(r.length:Int))=true:=primF_iff.2 ⟨h1,hk,.inr hl⟩
    rw [if_pos hp]
    unfold contD
    rw [detG_eq r (valN x) hr]
    by_cases ha:(r.all fun y=>!tagCons (tagN y))=false
    ·have hn2:¬ ((r.all fun y=>!tagCons (tagN y))=true∧tagsB r=valN x):=by rw [ha];simp
     rw [if_pos ha,if_neg hn2]
    ·have ha':(r.all fun y=>!tagCons (tagN y))=true:=by simpa using ha
     rw [if_neg ha]
     by_cases ht:tagsB r=valN x
     ·have ht':¬ tagsB r≠valN x:=fun h=>h ht
      have hq:(r.all fun y=>!tagCons (tagN y))=true∧tagsB r=valN x:=⟨ha',ht⟩
      rw [if_neg ht',if_pos hq]
      show _=finD n ([]++detsN r)
      rw [List.nil_append]
      unfold finD
      rw [detF_chk n hn]
     ·have hq:¬ ((r.all fun y=>!tagCons (tagN y))=true∧tagsB r=valN x):=fun h=>ht h.2
      have ht':tagsB r≠valN x:=ht
      rw [if_pos ht',if_neg hq]
   ·have hp:¬ primF x 92 (2*(r.length:Int))=true:=fun h=>hl (by
     rcases (primF_iff.1 h).2.2 with h2 | h2
     ·omega
     ·exact h2)
    rw [if_neg hp]
    by_cases ha:(r.all fun y=>!tagCons (tagN y))=false
    ·rw [if_pos ha]
    ·have ht:tagsB r≠valN x:=fun ht=>hl (by rw [← ht,tagsB_len];simp)
     rw [if_neg ha,if_pos ht]
  ·have h1':tagN x≠92:=h1
   have hp:¬ primF x 92 (2*(r.length:Int))=true:=fun h=>h1 (primF_iff.1 h).1
   rw [if_pos h1',if_neg hp]
theorem detP_detO (b:List UInt8):detP b=detO b:=by
 have hwf:=openX_wf b
 unfold detP detO openZ
 generalize openX b=q at hwf
 obtain ⟨n,l,e⟩:=q
 simp only at hwf ⊢
 by_cases h1:e≠0
 ·rw [if_pos h1,if_pos h1,if_pos h1]
 rw [if_neg h1,if_neg h1]
 by_cases h2:n=11∨n=12
 ·have a1:¬ ¬ (n=11∨n=12):=fun h=>h h2
  have a2:¬ (n < 11∨n > 12):=by omega
  rw [if_neg a1,if_neg a2]
  exact detB_eq n h2 l hwf
 ·have a2:n < 11∨n > 12:=by omega
  rw [if_pos h2,if_pos a2]
  rfl
end Tdoc
namespace Tdoc
open Go Go.Proofs
theorem SameDet_self (l:List Det) (hl:l.length≤1000000):Spec Tryz.prog 48 [.d (.sl 2 (encDs l)),.d (.sl 2 (encDs l))] [] (fun r h'=>r=.d (.bool true)∧h'=[]):=by
 have hll:=qCn l
 refine qAb hT Tryz.func48 rfl rfl rfl rfl ?_;intro E hE
 refine ww ?_
 refine qAa rfl (fun c1=>?_) (fun c1=>?_)
 ·exact absurd c1 (by simp)
 refine ww ?_
 refine qAq (ι:=Nat) (fun i=>[(0,.d (.sl 2 (encDs l))),(1,.d (.sl 2 (encDs l))),(5,.d (.int .i64 (i:Int)))]) (fun _=>[]) (fun i=>i≤l.length) (fun i=>l.length-i) 0 (by omega) ⟨.refl _,.refl _,.refl _,trivial⟩ (HLe.refl _) ?_
 intro i hi
 have hwr:IntKind.i64.wrap ((i:Int)+1)=((i+1:Nat):Int):=by rw [qAe (by omega)];simp
 refine ww ?_
 refine qAa rfl (fun c2=>?_) (fun c2=>?_)
 ·have c2':i < l.length:=by rw [hll] at c2;simpa using c2
  have hel:=encDs_at c2'
  generalize l[i]=x at hel
  obtain ⟨t,s⟩:=x
  unfold encD at hel
  simp only at hel
  refine ww ?_
  refine qAp (qAc (qAi hT rfl rfl rfl rfl (by omega) hel)) rfl rfl ?_
  refine ww ?_
  refine qAp (qAc (qAi hT rfl rfl rfl rfl (by omega) hel)) rfl rfl ?_
  refine ww ?_
  refine qAp (qAc (structNe_ok (ds:=[.int .i64 t,.str s]) (es:=[.int .i64 t,.str s]) (ks:=[some .i64,none]) rfl (by kernel_rfl) (by kernel_rfl) (by kernel_rfl) (by kernel_rfl) rfl rfl rfl rfl)) rfl rfl ?_
  refine ww ?_
  refine qAa rfl (fun c3=>?_) (fun c3=>?_)
  ·exact absurd c3 (by simp [sameL,sameD])
  refine ww ?_
  exact ⟨i+1,c2',by omega,⟨.refl _,.refl _,.int hwr,trivial⟩,HLe.refl _⟩
 refine ww ?_
 exact wwr
theorem SameInf_self (l:List Inf) (hl:l.length≤1000000):Spec Tryz.prog 49 [.d (.sl 5 (encFs l)),.d (.sl 5 (encFs l))] [] (fun r h'=>r=.d (.bool true)∧h'=[]):=by
 have hll:=qDt l
 refine qAb hT Tryz.func49 rfl rfl rfl rfl ?_;intro E hE
 refine ww ?_
 refine qAa rfl (fun c1=>?_) (fun c1=>?_)
 ·exact absurd c1 (by simp)
 refine ww ?_
 refine qAq (ι:=Nat) (fun i=>[(0,.d (.sl 5 (encFs l))),(1,.d (.sl 5 (encFs l))),(5,.d (.int .i64 (i:Int)))]) (fun _=>[]) (fun i=>i≤l.length) (fun i=>l.length-i) 0 (by omega) ⟨.refl _,.refl _,.refl _,trivial⟩ (HLe.refl _) ?_
 intro i hi
 have hwr:IntKind.i64.wrap ((i:Int)+1)=((i+1:Nat):Int):=by rw [qAe (by omega)];simp
 refine ww ?_
 refine qAa rfl (fun c2=>?_) (fun c2=>?_)
 ·have c2':i < l.length:=by rw [hll] at c2;simpa using c2
  have hel:=encFs_at c2'
  generalize l[i]=x at hel
  obtain ⟨a,b,c,d,e⟩:=x
  unfold encF at hel
  simp only at hel
  refine ww ?_
  refine qAp (qAc (qAi hT rfl rfl rfl rfl (by omega) hel)) rfl rfl ?_
  refine ww ?_
  refine qAp (qAc (qAi hT rfl rfl rfl rfl (by omega) hel)) rfl rfl ?_
  refine ww ?_
  refine qAp (qAc (structNe_ok (ds:=[.int .i64 a,.int .i64 b,.int .i64 c,.int .i64 d,.int .i64 e]) (es:=[.int .i64 a,.int .i64 b,.int .i64 c,.int .i64 d,.int .i64 e]) (ks:=[some .i64,some .i64,some .i64,some .i64,some .i64]) rfl (by kernel_rfl) (by kernel_rfl) (by kernel_rfl) (by kernel_rfl) rfl rfl rfl rfl)) rfl rfl ?_
  refine ww ?_
  refine qAa rfl (fun c3=>?_) (fun c3=>?_)
  ·exact absurd c3 (by simp [sameL,sameD])
  refine ww ?_
  exact ⟨i+1,c2',by omega,⟨.refl _,.refl _,.int hwr,trivial⟩,HLe.refl _⟩
 refine ww ?_
 exact wwr
end Tdoc
namespace Tdoc
open Go Go.Proofs
def FileW (b:List UInt8):Prop:=b=[]∨∃ (n:Int) (k:List Node),b=(wrapG n k).1
theorem FileW.short {b:List UInt8} (h:FileW b):b.length≤4096:=by
 rcases h with rfl | ⟨n,k,rfl⟩
 ·simp
 ·by_cases h0:(wrapG n k).1=[]
  ·rw [h0];simp
  ·unfold wrapG at h0 ⊢
   split
   ·simp
   ·rename_i ht
    rw [if_neg ht] at h0
    have:=encodeP_nil h0
    rw [this.1];exact this.2
theorem wrapM {n:Int} {k:List Node} (h1:1≤n) (h2:n≤16):FileM (wrapG n k).1:=.inr ⟨n,k,h1,h2,rfl⟩
theorem zoneM (z:Zon):FileM (zoneF z).1:=by
 unfold zoneF;split
 ·exact .inl rfl
 ·exact wrapM (by omega) (by omega)
theorem bioM {n:Int} (l:List Tpl):FileM (bioF n l).1:=by
 unfold bioF;split
 ·exact .inl rfl
 split
 ·exact .inl rfl
 split
 ·exact .inl rfl
 ·exact wrapM (by omega) (by omega)
theorem detM {n:Int} (l:List Det):FileM (detF n l).1:=by
 unfold detF;split
 ·exact .inl rfl
 split
 ·exact .inl rfl
 split
 ·exact .inl rfl
 ·rename_i h _ _
  exact wrapM (by omega) (by omega)
theorem infosM (l:List Inf):FileM (infosF l).1:=by
 unfold infosF;split
 ·exact .inl rfl
 ·exact wrapM (by omega) (by omega)
theorem activeM (k:Int):FileM (activeG k).1:=by
 unfold activeG;split
 ·exact wrapM (by omega) (by omega)
 ·exact .inl rfl
theorem FileM.w {b:List UInt8} (h:FileM b):FileW b:=by
 rcases h with h | ⟨n,k,_,_,h⟩
 ·exact .inl h
 ·exact .inr ⟨n,k,h⟩
end Tdoc
namespace Tdoc
open Go Go.Proofs
theorem splitR_l64 (s:List UInt8):(splitR s).1.length≤64∧(splitR s).2.1.length≤64:=by
 rw [← split_agree]
 unfold splitP
 split
 ·simp
 split
 ·simp
 split
 ·simp
 rename_i h1 h2 h3
 have ht:=trimF_lx s
 rw [cutR_eq]
 obtain ⟨k,_⟩:=cutR_split (trimF s)
 have hl:=congrArg List.length k
 rw [List.length_append] at hl
 simp only [spaceF,List.length_map]
 refine ⟨by omega,?_⟩
 by_cases hc:(cutR (trimF s)).2.2=true
 ·rw [if_pos hc] at hl
  simp only [List.length_cons] at hl
  omega
 ·rw [(cutR_split (trimF s)).2 (by simpa using hc)];simp
def SurOk (z:Zon):Prop:=z.sur.length≤64∧z.giv.length≤64
theorem sur0:SurOk zon0:=⟨by decide,by decide⟩
theorem core_sur (f:Int) (x:Fl):SurOk (coreZ f x).1:=by
 unfold coreZ
 split
 ·exact sur0
 split
 ·exact sur0
 split
 ·exact sur0
 split
 ·exact sur0
 ·exact splitR_l64 x.names
theorem parse_sur (ls:List (List UInt8)):SurOk (parseZ ls).1:=by
 unfold parseZ
 split
 ·exact sur0
 split
 ·exact sur0
 split
 ·exact core_sur _ _
 ·split
  ·exact core_sur _ _
  ·exact core_sur _ _
 ·exact sur0
theorem zoneO_sur (b:List UInt8):SurOk (zoneO b).1:=by
 unfold zoneO
 split
 ·exact sur0
 ·unfold zoneL
  split
  ·split
   ·unfold zoneT
    split
    ·exact parse_sur _
    split
    ·exact parse_sur _
    split
    ·exact parse_sur _
    ·exact sur0
   ·exact sur0
  ·exact sur0
theorem zoneO_len {b:List UInt8} (h:validZ (zoneO b).1=0):zLen (zoneO b).1:=by
 have zo:=validZ_ok h
 obtain ⟨s1,s2⟩:=zoneO_sur b
 have h1:=zo.kind
 have h2:=zo.state
 have h3:=zo.nat
 have h4:=zo.bir.1
 have h5:=zo.sex
 have h6:=zo.exp.1
 have h7:=zo.num.2.1
 have h8:=zo.opt.1
 have h9:=zo.sec.1
 have hm:mostN (zoneO b).1.fmt≤20:=by unfold mostN;split <;> (try split) <;> omega
 have hr:roomF (zoneO b).1≤15:=by unfold roomF;split <;> (try split) <;> (try split) <;> omega
 refine ⟨?_,?_,?_,?_,?_,?_,?_,?_,?_,?_,?_⟩ <;> omega
theorem SameLines_self (l:List (List UInt8)) (hl:l.length≤1000000):Spec Tryz.prog 46 [.d (.sl 1 (encSs l)),.d (.sl 1 (encSs l))] [] (fun r h'=>r=.d (.bool true)∧h'=[]):=by
 have hll:=encSs_length l
 refine qAb hT Tryz.func46 rfl rfl rfl rfl ?_;intro E hE
 refine ww ?_
 refine qAa rfl (fun c1=>?_) (fun c1=>?_)
 ·exact absurd c1 (by simp)
 refine ww ?_
 refine qAq (ι:=Nat) (fun i=>[(0,.d (.sl 1 (encSs l))),(1,.d (.sl 1 (encSs l))),(5,.d (.int .i64 (i:Int)))]) (fun _=>[]) (fun i=>i≤l.length) (fun i=>l.length-i) 0 (by omega) ⟨.refl _,.refl _,.refl _,trivial⟩ (HLe.refl _) ?_
 intro i hi
 have hwr:IntKind.i64.wrap ((i:Int)+1)=((i+1:Nat):Int):=by rw [qAe (by omega)];simp
 refine ww ?_
 refine qAa rfl (fun c2=>?_) (fun c2=>?_)
 ·have c2':i < l.length:=by rw [hll] at c2;simpa using c2
  have hel:(encSs l)[((i:Int)).toNat]?=some [.str l[i]]:=by simp [encSs,c2']
  generalize l[i]=x at hel
  refine ww ?_
  refine wwi hel ?_
  refine ww ?_
  refine wwi hel ?_
  refine ww ?_
  refine qAa rfl (fun c3=>?_) (fun c3=>?_)
  ·exact absurd c3 (by simp)
  refine ww ?_
  exact ⟨i+1,c2',by omega,⟨.refl _,.refl _,.int hwr,trivial⟩,HLe.refl _⟩
 refine ww ?_
 exact wwr
theorem datagroupsReturns_spec (t:List Int) (ht:t.length≤9223372036854775807) (key:Int) :
  Spec Tryz.prog 7 [.d (.sl 1 (encI t)),.d (.int .i64 key)] [] (fun r h'=>r=.d (.bool true)∧h'=[]):=by
 have hli:=Light_spec t
 refine qAb hT Tryz.func7 rfl rfl rfl rfl ?_;intro E hE
 refine ww ?_
 refine wwc hli ?_
 refine ww ?_
 refine qAa rfl (fun h1=>?_) (fun h1=>?_)
 ·refine ww ?_
  refine wwc awake_spec ?_
  refine ww ?_
  exact wwr
 have h1':t.length≤400:=by simpa using h1
 have hR:=Roll_spec t (by omega)
 have hZ:=DZone_spec t (by omega) 0 (by omega)
 refine wwe ?_
 refine qAo ?_
 refine qAu (qAn ?_)
 refine wws ?_
 refine AWk_opF (callS rfl rfl hR [0] (by decide) rfl rfl rfl rfl rfl rfl) rfl rfl ?_
 refine ww ?_
 refine qAz (callX rfl rfl (hZ) [0] (by decide) rfl rfl rfl rfl (fun _=>rfl) (fun _=>rfl) (fun _=>rfl)) rfl ?_
 rintro ⟨z,a1⟩ ⟨z1,z2⟩
 simp only at z1 z2 ⊢
 have hzl:=z1.len
 have hzb:=made_valid z1
 obtain ⟨y1,y2⟩:=zone_lines z1
 have p1:=ZoneP_spec z hzl
 have b1:=Build_spec z hzl
 have hbz:buildF z=(buildZ z,0):=by unfold buildF;rw [if_neg (by rw [hzb];simp)]
 rw [hbz] at b1
 have hbl:(buildZ z).length≤3:=(buildZ_len hzl).2
 have hzw:=(zoneM z).w.short
 generalize buildZ z=lines at y2 b1 hbl
 generalize hzf:zoneF z=zf at y1 y2 p1 hzw
 obtain ⟨zb,ze⟩:=zf
 simp only at y1 y2 p1 hzw
 subst y1
 have o1:=OpenZone_spec zb (by omega)
 rw [zoneP_zoneO] at o1
 have hol:(zoneO zb).2=0→zLen (zoneO zb).1:=fun h=>by
  have hb:=y2 h
  refine zoneO_len ?_
  by_cases hv:validZ (zoneO zb).1=0
  ·exact hv
  ·unfold buildF at hb
   rw [if_pos hv] at hb
   exact absurd (congrArg Prod.snd hb) hv
 have b2:=fun h=>Build_spec (zoneO zb).1 (hol h)
 have y2:(zoneO zb).2=0→Spec Tryz.prog 45 [zAV (zoneO zb).1] [] (fun r h'=>r=.tup [.d (.sl 1 (encSs lines)),.d (.int .i64 0)]∧h'=[]):=fun h=>by
  have:=b2 h
  rw [y2 h] at this
  exact this
 clear b2 hol hbz hzb hzf
 generalize zoneO zb=zx at o1 y2
 obtain ⟨⟨u1,u2,u3,u4,u5,u6,u7,u8,u9,u10,u11,u12⟩,zf⟩:=zx
 obtain ⟨fmt,kind,state,sur,giv,num,nat,bir,sex,exp,opt,sec⟩:=z
 unfold zAV zCells at p1 b1 o1 y2 ⊢
 simp only at p1 b1 o1 y2 ⊢
 clear z1 hzl
 have sl:=SameLines_self lines (by omega)
 refine ww ?_
 refine qAz (callX rfl rfl (DTemplates_spec t (by omega) a1 z2 2 (by omega)) [0] (by decide) rfl rfl rfl rfl (fun _=>rfl) (fun _=>rfl) (fun _=>rfl)) rfl ?_
 rintro ⟨l,a2⟩ ⟨l1,l2,l3,l4⟩
 simp only at l1 l2 l3 l4 ⊢
 refine ww ?_
 refine qAz (callX rfl rfl (DDetails_spec t (by omega) a2 l4 11) [0] (by decide) rfl rfl rfl rfl (fun _=>rfl) (fun _=>rfl) (fun _=>rfl)) rfl ?_
 rintro ⟨s,a3⟩ ⟨s1,s2⟩
 simp only at s1 s2 ⊢
 refine ww ?_
 refine qAz (callX rfl rfl (DInfos_spec t (by omega) a3 s2) [0] (by decide) rfl rfl rfl rfl (fun _=>rfl) (fun _=>rfl) (fun _=>rfl)) rfl ?_
 rintro ⟨fs,a4⟩ ⟨f1,f2⟩
 simp only at f1 f2 ⊢
 have hpt:=Point_spec key
 obtain ⟨t1,t2⟩:=bio_back l1 l2 l3
 have p2:=bioP_spec 3 (by omega) l (by omega)
 have hw2:=(bioM (n:=3) l).w.short
 have sm2:=SameTpl_spec l (by omega) (fun t ht=>by have:=validT_ok (l1 t ht).1;omega)
 generalize bioF 3 l=x2 at t1 t2 p2 hw2
 obtain ⟨x2,e2⟩:=x2
 simp only at t1 t2 p2 hw2
 subst t1
 have o2:=OpenBio_spec x2 (by omega)
 rw [t2] at o2
 obtain ⟨d1,d2⟩:=det_back s1
 have p3:=detP_spec 11 (by omega) s (by have:=s1.2.2;omega)
 have hw3:=(detM (n:=11) s).w.short
 have sm3:=SameDet_self s (by have:=s1.2.2;omega)
 generalize detF 11 s=x3 at d1 d2 p3 hw3
 obtain ⟨x3,e3⟩:=x3
 simp only at d1 d2 p3 hw3
 subst d1
 have o3:=OpenDet_spec x3 (by omega)
 rw [detP_detO,d2] at o3
 obtain ⟨i1,i2⟩:=inf_back f1
 have p4:=infosP_spec fs (by have:=f1.2.2;omega)
 have hw4:=(infosM fs).w.short
 have sm4:=SameInf_self fs (by have:=f1.2.2;omega)
 generalize infosF fs=x4 at i1 i2 p4 hw4
 obtain ⟨x4,e4⟩:=x4
 simp only at i1 i2 p4 hw4
 subst i1
 have o4:=OpenInf_spec x4 (by omega)
 rw [i2] at o4
 obtain ⟨k1,k2⟩:=key_back key
 have p5:=Active_spec (pointG key)
 have hw5:=(activeM (pointG key)).w.short
 generalize activeG (pointG key)=x5 at k1 k2 p5 hw5
 obtain ⟨x5,e5⟩:=x5
 simp only at k1 k2 p5 hw5
 subst k1
 have o5:=OpenActive_spec x5 (by omega)
 rw [k2] at o5
 simp only at o2 o3 o4 o5
 generalize pointG key=pk at hpt p5 o5 k2
 clear s1 f1 l1
 refine ww ?_
 refine wwc p1 ?_
 refine ww ?_
 refine wwc o1 ?_
 refine ww ?_
 refine wwc p2 ?_
 refine ww ?_
 refine wwc o2 ?_
 refine ww ?_
 refine wwc p3 ?_
 refine ww ?_
 refine wwc o3 ?_
 refine ww ?_
 refine wwc p4 ?_
 refine ww ?_
 refine wwc o4 ?_
 refine ww ?_
 refine wwc hpt ?_
 refine ww ?_
 refine wwc p5 ?_
 refine ww ?_
 refine wwc o5 ?_
 refine ww ?_
 refine wwc awake_spec ?_
 refine ww ?_
 refine qAa rfl (fun c1=>?_) (fun c1=>?_)
 ·exact absurd c1 (by simp [gval])
 refine ww ?_
 refine wwc b1 ?_
 refine ww ?_
 refine qAa rfl (fun c2=>?_) (fun c2=>?_)
 ·have hz0:zf=0:=by simpa using c2
  have b2:=y2 hz0
  refine ww ?_
  refine wwc b2 ?_
  refine ww ?_
  refine wwc sl ?_
  refine ww ?_
  refine qAa rfl (fun c3=>?_) (fun c3=>?_)
  ·exact absurd c3 (by simp)
  refine ww ?_
  refine wwgc sm2 ?_
  refine ww ?_
  refine wwgc sm3 ?_
  refine ww ?_
  refine wwgc sm4 ?_
  refine ww ?_
  refine wwgc hpt ?_
  refine ww ?_
  exact rq ⟨rfl,rfl⟩ rfl (.bool (by simp))
 refine ww ?_
 refine wwgc sm2 ?_
 refine ww ?_
 refine wwgc sm3 ?_
 refine ww ?_
 refine wwgc sm4 ?_
 refine ww ?_
 refine wwgc hpt ?_
 refine ww ?_
 exact rq ⟨rfl,rfl⟩ rfl (.bool (by simp))
end Tdoc
