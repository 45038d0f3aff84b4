/- Part 12 of the proof: the texts HW CZ HX. -/
import Derived.Test.YtijghnaidinliaaGreatDoorCW11
set_option maxHeartbeats 8000000
set_option maxRecDepth 100000
set_option linter.unusedVariables false
set_option linter.unusedSimpArgs false
namespace Tdoc
open Go Go.Proofs
structure MkQ (p:Per):Prop where
 base:MkP p
 fs:FsS p.root p.apps
 root:p.root≠[]
 infos:p.infos.length≤4
theorem mkQ_of {x:MkV} (h:MkOk x):MkQ (qFa x):=by
 have hr:=h.root
 have ha:=h.apps
 have h0:=h.b0
 have h1:=h.b1
 have h2:=h.b2
 have h3:=h.b3
 have h4:=h.b4
 have h5:=h.b5
 refine ⟨mkP_of h,⟨⟨?_,fun f hf=>?_⟩,⟨?_,fun f hf=>?_⟩⟩,?_,?_⟩
 ·show (qCr x).length≤_
  simp [qCr];omega
 ·have hf':f∈qCr x:=hf
  unfold qCr at hf'
  rcases List.mem_append.1 hf' with hf' | hf'
  ·have:=hr.2 f hf';omega
  ·rw [List.mem_singleton.1 hf'];simp only;omega
 ·show (qFg x).length≤_
  simp [qFg];omega
 ·have hf':f∈qFg x:=hf
  rcases List.mem_cons.1 hf' with rfl | hf'
  ·refine ⟨by simp [qVr],by simp [qVr],fun g hg=>?_⟩
   simp only [qVr,List.mem_cons,List.not_mem_nil,or_false] at hg
   rcases hg with rfl | rfl | rfl | rfl | rfl <;> simp only [List.length_append,List.length_singleton] <;> omega
  ·have:=ha.2 f hf';exact ⟨by have:=this.1;omega,by have:=this.2.1;omega,fun g hg=>by have:=this.2.2 g hg;omega⟩
 ·show qCr x≠[]
  unfold qCr;simp
 ·simp only [qFa];split <;> simp [qJl]
theorem qPz (L:List Int) (hL:L.length≤1000000) (a:Nat) (ha:a≤L.length) :
  Spec Tryz.prog 17 [.ptr 0 0] [.row (qAk L a)] (fun r h'=>∃ x:Per×Nat,(MkQ x.1∧x.2≤L.length)∧r=.agg (qUg x.1)∧h'=[.row (qAk L x.2)]):=by
 obtain ⟨h1,h2,h3⟩:=mkVal_spec L hL a ha
 exact (qMb L a _ _ h1).mono fun r h' ⟨e1,e2⟩=>⟨(qFa (qPy L a).1,(qPy L a).2),⟨mkQ_of h2,h3⟩,e1,e2⟩
structure OdP (p:Per):Prop where
 len:PerLen p
 sd:p.seed.length≤100
 tps:∀ t,t∈p.tps→t.holder.length≤1000000
theorem MkQ.od {p:Per} (h:MkQ p):OdP p:=⟨h.base.len,by have:=h.base.sd;omega,fun t ht=>by
 obtain ⟨t',h1,h2⟩:=h.base.tps
 rw [h1] at ht
 rw [List.mem_singleton.1 ht];omega⟩
def OdR (L:List Int) (x:Per×Nat):Prop:=OdP x.1∧x.2≤L.length
theorem FsB.root' {root:List Fil} {apps:List Apk} (h:FsB root apps):root.length≤100000∧∀ f,f∈root→f.con.length≤1000000:=⟨by have:=h.root.1;omega,fun f hf=>by have:=h.root.2 f hf;omega⟩
theorem FsB.apps' {root:List Fil} {apps:List Apk} (h:FsB root apps):apps.length≤100000∧(∀ a,a∈apps→a.files.length≤100000∧a.name.length≤1000000)∧∀ a,a∈apps→∀ f,f∈a.files→f.con.length≤1000000 :=
 ⟨by have:=h.apps.1;omega,fun a ha=>by have:=h.apps.2 a ha;omega,fun a ha f hf=>by have:=(h.apps.2 a ha).2.2 f hf;omega⟩
theorem qYx (L:List Int) (hL:L.length≤1000000) (a:Nat) (ha:a≤L.length) (p:Per) (hp:MkQ p) (hv:nxV L a 10=0) :
  Spec Tryz.prog 18 [.ptr 0 0,qBw p] [.row (qAk L a)] (fun r h'=>∃ x:Per×Nat,OdR L x∧r=qBw x.1∧h'=[.row (qAk L x.2)]):=by
 have hN2:=qAq L hL a ha 10 (by omega) (by omega)
 rw [hv] at hN2
 have g2:=nxA_le ha
 generalize nxA L a=a2 at hN2 g2
 have hOF:=qLb L hL a2 g2 p.root p.apps hp.fs hp.root
 obtain ⟨x,a3,e5,e6,g3,hx,hN3⟩:=qAo L hL a2 g2
 obtain ⟨y,a4,e7,e8,g4,hy,hN4⟩:=qAo L hL a3 g3
 clear e5 e6 e7 e8 hv
 have hod:=hp.od
 clear hp
 obtain ⟨root,apps,zone,number,pin,puk,pr,ur,basic,infos,ck,ak,tps,tday,ident,seed⟩:=p
 simp only at hOF
 refine qAb hT Tryz.func18 rfl rfl rfl rfl ?_;intro E hE
 refine qAi (qAi ?_)
 refine qAl (qAh ?_)
 refine qAe (boxAt_ok (i0:=1) (cs:=[.d (.sl 5 (qAc root)),.d (.sl 2 (qAf apps)),.d (.str zone),.d (.sl 1 (qAg number)),.d (.sl 1 (qAg pin)),.d (.sl 1 (qAg puk)),.I pr,.I ur,.d (.bool basic),.d (.sl 5 (qAt infos)),.I ck,.I ak,.d (.sl 5 (qAp tps)),.I tday,.d (.sl 1 (qAg ident)),.d (.sl 1 (qAg seed))]) rfl rfl rfl) rfl ?_
 refine qAe (allocAt_ok (i0:=2) (i:=((T.find 50).getD ⟨.str,0,0,[]⟩)) hT rfl rfl rfl) rfl ?_
 refine wws ?_
 refine qAs (l:=[(0,.ptr 0 0),(3,.ptr 1 0),(4,.ptr 2 0)]) (h':=[.row (qAk L a),.row [.d (.sl 5 (qAc root)),.d (.sl 2 (qAf apps)),.d (.str zone),.d (.sl 1 (qAg number)),.d (.sl 1 (qAg pin)),.d (.sl 1 (qAg puk)),.I pr,.I ur,.d (.bool basic),.d (.sl 5 (qAt infos)),.I ck,.I ak,.d (.sl 5 (qAp tps)),.I tday,.d (.sl 1 (qAg ident)),.d (.sl 1 (qAg seed))],.row qFu]) yf (HLe.refl _) ?_
 refine qAl ?_
 refine wwn ?_
 refine qAe (qAr rfl rfl (hN2) [0] (by decide) rfl rfl rfl rfl rfl rfl rfl) rfl ?_
 refine wwn ?_
 refine qAa rfl (fun q=>?_) (fun q=>absurd q (by decide))
 refine qAh ?_
 refine wws ?_
 refine qJa (qVa rfl rfl (hOF) [0] (by decide) rfl rfl rfl rfl (fun _=>rfl) (fun _=>rfl) (fun _=>rfl)) rfl ?_
 rintro ⟨⟨root',apps'⟩,b'⟩ ⟨hfb,hb'⟩
 simp only at hfb hb' ⊢
 refine wws ?_
 refine qAs (l:=[(3,.ptr 1 0),(4,.ptr 2 0)]) (h':=[.row (qAk L b'),.row [.d (.sl 5 (qAc root')),.d (.sl 2 (qAf apps')),.d (.str zone),.d (.sl 1 (qAg number)),.d (.sl 1 (qAg pin)),.d (.sl 1 (qAg puk)),.I pr,.I ur,.d (.bool basic),.d (.sl 5 (qAt infos)),.I ck,.I ak,.d (.sl 5 (qAp tps)),.I tday,.d (.sl 1 (qAg ident)),.d (.sl 1 (qAg seed))],.row qFu]) yf ?_ ?_
 ·refine ⟨ObLe.refl _,⟨?_,?_,?_,?_,?_,?_,?_,?_,?_,?_,?_,?_,?_,?_,?_,?_,trivial⟩,ObLe.refl _,trivial⟩ <;> first | exact .refl _ | exact .dat | exact .nils
 refine qAl (qAh ?_)
 refine qAe (qBg (i:=1) (off:=0) hT rfl rfl rfl (L16 (C:=[.d (.sl 5 (qAc root')),.d (.sl 2 (qAf apps')),.d (.str zone),.d (.sl 1 (qAg number)),.d (.sl 1 (qAg pin)),.d (.sl 1 (qAg puk)),.I pr,.I ur,.d (.bool basic),.d (.sl 5 (qAt infos)),.I ck,.I ak,.d (.sl 5 (qAp tps)),.I tday,.d (.sl 1 (qAg ident)),.d (.sl 1 (qAg seed))]) rfl)) rfl ?_
 refine qBb (qAz (i:=2) (off:=0) hT rfl rfl rfl (S16 (C:=[.d (.sl 5 (qAc root')),.d (.sl 2 (qAf apps')),.d (.str zone),.d (.sl 1 (qAg number)),.d (.sl 1 (qAg pin)),.d (.sl 1 (qAg puk)),.I pr,.I ur,.d (.bool basic),.d (.sl 5 (qAt infos)),.I ck,.I ak,.d (.sl 5 (qAp tps)),.I tday,.d (.sl 1 (qAg ident)),.d (.sl 1 (qAg seed))]) rfl rfl)) (forceS_eq _ _) ?_
 refine qBm ?_
 refine wwn ?_
 exact qCy ⟨(⟨root',apps',zone,number,pin,puk,pr,ur,basic,infos,ck,ak,tps,tday,ident,seed⟩,b'),⟨⟨⟨hfb.root',hfb.apps',hod.len.str,hod.len.infos,hod.len.tps⟩,hod.sd,hod.tps⟩,hb'⟩,rfl,rfl⟩ rfl (.refl _) rfl rfl rfl rfl
theorem qYw (L:List Int) (hL:L.length≤1000000) (a:Nat) (ha:a≤L.length) (p:Per) (hp:MkQ p) (hv:nxV L a 10=1) :
  Spec Tryz.prog 18 [.ptr 0 0,qBw p] [.row (qAk L a)] (fun r h'=>∃ x:Per×Nat,OdR L x∧r=qBw x.1∧h'=[.row (qAk L x.2)]):=by
 have hN2:=qAq L hL a ha 10 (by omega) (by omega)
 rw [hv] at hN2
 have g2:=nxA_le ha
 generalize nxA L a=a2 at hN2 g2
 obtain ⟨x,a3,e5,e6,g3,hx,hN3⟩:=qAo L hL a2 g2
 obtain ⟨y,a4,e7,e8,g4,hy,hN4⟩:=qAo L hL a3 g3
 clear e5 e6 e7 e8 hv
 have hod:=hp.od
 clear hp
 obtain ⟨root,apps,zone,number,pin,puk,pr,ur,basic,infos,ck,ak,tps,tday,ident,seed⟩:=p
 refine qAb hT Tryz.func18 rfl rfl rfl rfl ?_;intro E hE
 refine qAi (qAi ?_)
 refine qAl (qAh ?_)
 refine qAe (boxAt_ok (i0:=1) (cs:=[.d (.sl 5 (qAc root)),.d (.sl 2 (qAf apps)),.d (.str zone),.d (.sl 1 (qAg number)),.d (.sl 1 (qAg pin)),.d (.sl 1 (qAg puk)),.I pr,.I ur,.d (.bool basic),.d (.sl 5 (qAt infos)),.I ck,.I ak,.d (.sl 5 (qAp tps)),.I tday,.d (.sl 1 (qAg ident)),.d (.sl 1 (qAg seed))]) rfl rfl rfl) rfl ?_
 refine qAe (allocAt_ok (i0:=2) (i:=((T.find 50).getD ⟨.str,0,0,[]⟩)) hT rfl rfl rfl) rfl ?_
 refine wws ?_
 refine qAs (l:=[(0,.ptr 0 0),(3,.ptr 1 0),(4,.ptr 2 0)]) (h':=[.row (qAk L a),.row [.d (.sl 5 (qAc root)),.d (.sl 2 (qAf apps)),.d (.str zone),.d (.sl 1 (qAg number)),.d (.sl 1 (qAg pin)),.d (.sl 1 (qAg puk)),.I pr,.I ur,.d (.bool basic),.d (.sl 5 (qAt infos)),.I ck,.I ak,.d (.sl 5 (qAp tps)),.I tday,.d (.sl 1 (qAg ident)),.d (.sl 1 (qAg seed))],.row qFu]) yf (HLe.refl _) ?_
 refine qAl ?_
 refine wwn ?_
 refine qAe (qAr rfl rfl (hN2) [0] (by decide) rfl rfl rfl rfl rfl rfl rfl) rfl ?_
 refine wwn ?_
 refine qAa rfl (fun q=>absurd q (by decide)) (fun q=>?_)
 refine wwn ?_
 refine qAa rfl (fun q=>?_) (fun q=>absurd q (by decide))
 have hx_n:=hx 2 (by omega)
 have hq_n:=hN3 2 (by omega) (by omega)
 obtain ⟨n,he_n⟩:∃ n:Nat,x 2=(n:Int):=⟨(x 2).toNat,by omega⟩
 rw [he_n] at hx_n hq_n
 have hw_n:IntKind.i64.wrap (64+(n:Int))=((64+n:Nat):Int):=by rw [qAj (by omega)];omega
 refine qAh ?_
 refine wws ?_
 refine qAe (qAr rfl rfl (hq_n) [0] (by decide) rfl rfl rfl rfl rfl rfl rfl) rfl ?_
 refine wws ?_
 refine qAe (makeDat_ok (n:=64+n) (z:=.int .u8 0) hT rfl rfl (by show AV.d (.int .i64 (IntKind.i64.wrap (64+(n:Int))))=_;rw [hw_n]) (by show AV.d (.int .i64 (IntKind.i64.wrap (64+(n:Int))))=_;rw [hw_n]) (by show 1*(64+n)≤_;omega) (by omega)) rfl ?_
 rw [encB_zeros]
 refine qBs hT rfl rfl (byteCells_encB (List.replicate (64+n) 0)) ?_
 rw [bytesOf_encB]
 refine wws ?_
 refine qAs (l:=[(3,.ptr 1 0),(4,.ptr 2 0)]) (h':=[.row (qAk L a3),.row [.d (.sl 5 (qAc root)),.d (.sl 2 (qAf apps)),.d (.str (List.replicate (64+n) 0)),.d (.sl 1 (qAg number)),.d (.sl 1 (qAg pin)),.d (.sl 1 (qAg puk)),.I pr,.I ur,.d (.bool basic),.d (.sl 5 (qAt infos)),.I ck,.I ak,.d (.sl 5 (qAp tps)),.I tday,.d (.sl 1 (qAg ident)),.d (.sl 1 (qAg seed))],.row qFu]) yf ?_ ?_
 ·refine ⟨ObLe.refl _,⟨?_,?_,?_,?_,?_,?_,?_,?_,?_,?_,?_,?_,?_,?_,?_,?_,trivial⟩,ObLe.refl _,trivial⟩ <;> first | exact .refl _ | exact .dat | exact .nils
 refine qAl (qAh ?_)
 refine qAe (qBg (i:=1) (off:=0) hT rfl rfl rfl (L16 (C:=[.d (.sl 5 (qAc root)),.d (.sl 2 (qAf apps)),.d (.str (List.replicate (64+n) 0)),.d (.sl 1 (qAg number)),.d (.sl 1 (qAg pin)),.d (.sl 1 (qAg puk)),.I pr,.I ur,.d (.bool basic),.d (.sl 5 (qAt infos)),.I ck,.I ak,.d (.sl 5 (qAp tps)),.I tday,.d (.sl 1 (qAg ident)),.d (.sl 1 (qAg seed))]) rfl)) rfl ?_
 refine qBb (qAz (i:=2) (off:=0) hT rfl rfl rfl (S16 (C:=[.d (.sl 5 (qAc root)),.d (.sl 2 (qAf apps)),.d (.str (List.replicate (64+n) 0)),.d (.sl 1 (qAg number)),.d (.sl 1 (qAg pin)),.d (.sl 1 (qAg puk)),.I pr,.I ur,.d (.bool basic),.d (.sl 5 (qAt infos)),.I ck,.I ak,.d (.sl 5 (qAp tps)),.I tday,.d (.sl 1 (qAg ident)),.d (.sl 1 (qAg seed))]) rfl rfl)) (forceS_eq _ _) ?_
 refine qBm ?_
 refine wwn ?_
 exact qCy ⟨(⟨root,apps,(List.replicate (64+n) 0),number,pin,puk,pr,ur,basic,infos,ck,ak,tps,tday,ident,seed⟩,a3),⟨⟨⟨hod.len.root,hod.len.apps,hod.len.str,hod.len.infos,hod.len.tps⟩,hod.sd,hod.tps⟩,g3⟩,rfl,rfl⟩ rfl (.refl _) rfl rfl rfl rfl
theorem qYv (L:List Int) (hL:L.length≤1000000) (a:Nat) (ha:a≤L.length) (p:Per) (hp:MkQ p) (hv:nxV L a 10=2) :
  Spec Tryz.prog 18 [.ptr 0 0,qBw p] [.row (qAk L a)] (fun r h'=>∃ x:Per×Nat,OdR L x∧r=qBw x.1∧h'=[.row (qAk L x.2)]):=by
 have hN2:=qAq L hL a ha 10 (by omega) (by omega)
 rw [hv] at hN2
 have g2:=nxA_le ha
 generalize nxA L a=a2 at hN2 g2
 obtain ⟨x,a3,e5,e6,g3,hx,hN3⟩:=qAo L hL a2 g2
 obtain ⟨y,a4,e7,e8,g4,hy,hN4⟩:=qAo L hL a3 g3
 clear e5 e6 e7 e8 hv
 have hod:=hp.od
 clear hp
 obtain ⟨root,apps,zone,number,pin,puk,pr,ur,basic,infos,ck,ak,tps,tday,ident,seed⟩:=p
 refine qAb hT Tryz.func18 rfl rfl rfl rfl ?_;intro E hE
 refine qAi (qAi ?_)
 refine qAl (qAh ?_)
 refine qAe (boxAt_ok (i0:=1) (cs:=[.d (.sl 5 (qAc root)),.d (.sl 2 (qAf apps)),.d (.str zone),.d (.sl 1 (qAg number)),.d (.sl 1 (qAg pin)),.d (.sl 1 (qAg puk)),.I pr,.I ur,.d (.bool basic),.d (.sl 5 (qAt infos)),.I ck,.I ak,.d (.sl 5 (qAp tps)),.I tday,.d (.sl 1 (qAg ident)),.d (.sl 1 (qAg seed))]) rfl rfl rfl) rfl ?_
 refine qAe (allocAt_ok (i0:=2) (i:=((T.find 50).getD ⟨.str,0,0,[]⟩)) hT rfl rfl rfl) rfl ?_
 refine wws ?_
 refine qAs (l:=[(0,.ptr 0 0),(3,.ptr 1 0),(4,.ptr 2 0)]) (h':=[.row (qAk L a),.row [.d (.sl 5 (qAc root)),.d (.sl 2 (qAf apps)),.d (.str zone),.d (.sl 1 (qAg number)),.d (.sl 1 (qAg pin)),.d (.sl 1 (qAg puk)),.I pr,.I ur,.d (.bool basic),.d (.sl 5 (qAt infos)),.I ck,.I ak,.d (.sl 5 (qAp tps)),.I tday,.d (.sl 1 (qAg ident)),.d (.sl 1 (qAg seed))],.row qFu]) yf (HLe.refl _) ?_
 refine qAl ?_
 refine wwn ?_
 refine qAe (qAr rfl rfl (hN2) [0] (by decide) rfl rfl rfl rfl rfl rfl rfl) rfl ?_
 refine wwn ?_
 refine qAa rfl (fun q=>absurd q (by decide)) (fun q=>?_)
 refine wwn ?_
 refine qAa rfl (fun q=>absurd q (by decide)) (fun q=>?_)
 refine wwn ?_
 refine qAa rfl (fun q=>?_) (fun q=>absurd q (by decide))
 have hx_n:=hx 3 (by omega)
 have hq_n:=hN3 3 (by omega) (by omega)
 obtain ⟨n,he_n⟩:∃ n:Nat,x 3=(n:Int):=⟨(x 3).toNat,by omega⟩
 rw [he_n] at hx_n hq_n
 have hw_n:IntKind.i64.wrap (15+(n:Int))=((15+n:Nat):Int):=by rw [qAj (by omega)];omega
 have hx_m:=hy 3 (by omega)
 have hq_m:=hN4 3 (by omega) (by omega)
 obtain ⟨m,he_m⟩:∃ n:Nat,y 3=(n:Int):=⟨(y 3).toNat,by omega⟩
 rw [he_m] at hx_m hq_m
 have hw_m:IntKind.i64.wrap (15+(m:Int))=((15+m:Nat):Int):=by rw [qAj (by omega)];omega
 refine qAy (fun i=>bif Nat.beq i 1 then [0] else bif Nat.beq i 5 then [0] else bif Nat.beq i 9 then [1] else bif Nat.beq i 11 then [1] else []) (fun i=>bif Nat.beq i 1 then [0] else bif Nat.beq i 5 then [0] else bif Nat.beq i 9 then [1] else bif Nat.beq i 11 then [1] else []) mixed (by kernel_rfl) ?_
 refine wwg ?_
 refine qAm (v:=.I (n:Int)) (os:=[.row (qAk L a3)]) (fun kk hk1 hk2=>qAr rfl rfl hq_n [0] (by decide) (by show [kk[0]?]=[some _];rw [hk2 0 List.mem_cons_self];rfl) rfl rfl rfl rfl rfl rfl) rfl ?_
 refine wwg ?_
 refine qAm (v:=.d (.sl 1 (qAg (List.replicate (15+n) 0)))) (os:=[]) (fun kk hk1 hk2=>by rw [show qAg (List.replicate (15+n) 0)=List.replicate (15+n) [Dat.int .u8 0] from (encB_zeros _).symm];exact makeDat_ok (n:=15+n) (z:=.int .u8 0) hT rfl rfl (by show AV.d (.int .i64 (IntKind.i64.wrap (15+(n:Int))))=_;rw [hw_n]) (by show AV.d (.int .i64 (IntKind.i64.wrap (15+(n:Int))))=_;rw [hw_n]) (by show 1*(15+n)≤_;omega) (by omega)) rfl ?_
 refine wwg ?_
 refine qAm (v:=.I (m:Int)) (os:=[.row (qAk L a4)]) (fun kk hk1 hk2=>qAr rfl rfl hq_m [0] (by decide) (by show [kk[0]?]=[some _];rw [hk2 0 List.mem_cons_self];rfl) rfl rfl rfl rfl rfl rfl) rfl ?_
 refine wwg ?_
 refine qAm (v:=.d (.sl 1 (qAg (List.replicate (15+m) 0)))) (os:=[]) (fun kk hk1 hk2=>by rw [show qAg (List.replicate (15+m) 0)=List.replicate (15+m) [Dat.int .u8 0] from (encB_zeros _).symm];exact makeDat_ok (n:=15+m) (z:=.int .u8 0) hT rfl rfl (by show AV.d (.int .i64 (IntKind.i64.wrap (15+(m:Int))))=_;rw [hw_m]) (by show AV.d (.int .i64 (IntKind.i64.wrap (15+(m:Int))))=_;rw [hw_m]) (by show 1*(15+m)≤_;omega) (by omega)) rfl ?_
 refine wwg ?_
 refine qAs (l:=[(3,.ptr 1 0),(4,.ptr 2 0)]) (h':=[.row (qAk L a4),.row [.d (.sl 5 (qAc root)),.d (.sl 2 (qAf apps)),.d (.str zone),.d (.sl 1 (qAg (List.replicate (15+n) 0))),.d (.sl 1 (qAg (List.replicate (15+m) 0))),.d (.sl 1 (qAg puk)),.I pr,.I ur,.d (.bool basic),.d (.sl 5 (qAt infos)),.I ck,.I ak,.d (.sl 5 (qAp tps)),.I tday,.d (.sl 1 (qAg ident)),.d (.sl 1 (qAg seed))],.row qFu]) yf ?_ ?_
 ·refine ⟨ObLe.refl _,⟨?_,?_,?_,?_,?_,?_,?_,?_,?_,?_,?_,?_,?_,?_,?_,?_,trivial⟩,ObLe.refl _,trivial⟩ <;> first | exact .refl _ | exact .dat | exact .nils
 refine qAl (qAh ?_)
 refine qAe (qBg (i:=1) (off:=0) hT rfl rfl rfl (L16 (C:=[.d (.sl 5 (qAc root)),.d (.sl 2 (qAf apps)),.d (.str zone),.d (.sl 1 (qAg (List.replicate (15+n) 0))),.d (.sl 1 (qAg (List.replicate (15+m) 0))),.d (.sl 1 (qAg puk)),.I pr,.I ur,.d (.bool basic),.d (.sl 5 (qAt infos)),.I ck,.I ak,.d (.sl 5 (qAp tps)),.I tday,.d (.sl 1 (qAg ident)),.d (.sl 1 (qAg seed))]) rfl)) rfl ?_
 refine qBb (qAz (i:=2) (off:=0) hT rfl rfl rfl (S16 (C:=[.d (.sl 5 (qAc root)),.d (.sl 2 (qAf apps)),.d (.str zone),.d (.sl 1 (qAg (List.replicate (15+n) 0))),.d (.sl 1 (qAg (List.replicate (15+m) 0))),.d (.sl 1 (qAg puk)),.I pr,.I ur,.d (.bool basic),.d (.sl 5 (qAt infos)),.I ck,.I ak,.d (.sl 5 (qAp tps)),.I tday,.d (.sl 1 (qAg ident)),.d (.sl 1 (qAg seed))]) rfl rfl)) (forceS_eq _ _) ?_
 refine qBm ?_
 refine wwn ?_
 exact qCy ⟨(⟨root,apps,zone,(List.replicate (15+n) 0),(List.replicate (15+m) 0),puk,pr,ur,basic,infos,ck,ak,tps,tday,ident,seed⟩,a4),⟨⟨⟨hod.len.root,hod.len.apps,⟨by simp only [List.length_replicate];omega,by simp only [List.length_replicate];omega,hod.len.str.2.2⟩,hod.len.infos,hod.len.tps⟩,hod.sd,hod.tps⟩,g4⟩,rfl,rfl⟩ rfl (.refl _) rfl rfl rfl rfl
theorem qYu (L:List Int) (hL:L.length≤1000000) (a:Nat) (ha:a≤L.length) (p:Per) (hp:MkQ p) (hv:nxV L a 10=3) :
  Spec Tryz.prog 18 [.ptr 0 0,qBw p] [.row (qAk L a)] (fun r h'=>∃ x:Per×Nat,OdR L x∧r=qBw x.1∧h'=[.row (qAk L x.2)]):=by
 have hN2:=qAq L hL a ha 10 (by omega) (by omega)
 rw [hv] at hN2
 have g2:=nxA_le ha
 generalize nxA L a=a2 at hN2 g2
 obtain ⟨x,a3,e5,e6,g3,hx,hN3⟩:=qAo L hL a2 g2
 obtain ⟨y,a4,e7,e8,g4,hy,hN4⟩:=qAo L hL a3 g3
 clear e5 e6 e7 e8 hv
 have hod:=hp.od
 clear hp
 obtain ⟨root,apps,zone,number,pin,puk,pr,ur,basic,infos,ck,ak,tps,tday,ident,seed⟩:=p
 refine qAb hT Tryz.func18 rfl rfl rfl rfl ?_;intro E hE
 refine qAi (qAi ?_)
 refine qAl (qAh ?_)
 refine qAe (boxAt_ok (i0:=1) (cs:=[.d (.sl 5 (qAc root)),.d (.sl 2 (qAf apps)),.d (.str zone),.d (.sl 1 (qAg number)),.d (.sl 1 (qAg pin)),.d (.sl 1 (qAg puk)),.I pr,.I ur,.d (.bool basic),.d (.sl 5 (qAt infos)),.I ck,.I ak,.d (.sl 5 (qAp tps)),.I tday,.d (.sl 1 (qAg ident)),.d (.sl 1 (qAg seed))]) rfl rfl rfl) rfl ?_
 refine qAe (allocAt_ok (i0:=2) (i:=((T.find 50).getD ⟨.str,0,0,[]⟩)) hT rfl rfl rfl) rfl ?_
 refine wws ?_
 refine qAs (l:=[(0,.ptr 0 0),(3,.ptr 1 0),(4,.ptr 2 0)]) (h':=[.row (qAk L a),.row [.d (.sl 5 (qAc root)),.d (.sl 2 (qAf apps)),.d (.str zone),.d (.sl 1 (qAg number)),.d (.sl 1 (qAg pin)),.d (.sl 1 (qAg puk)),.I pr,.I ur,.d (.bool basic),.d (.sl 5 (qAt infos)),.I ck,.I ak,.d (.sl 5 (qAp tps)),.I tday,.d (.sl 1 (qAg ident)),.d (.sl 1 (qAg seed))],.row qFu]) yf (HLe.refl _) ?_
 refine qAl ?_
 refine wwn ?_
 refine qAe (qAr rfl rfl (hN2) [0] (by decide) rfl rfl rfl rfl rfl rfl rfl) rfl ?_
 refine wwn ?_
 refine qAa rfl (fun q=>absurd q (by decide)) (fun q=>?_)
 refine wwn ?_
 refine qAa rfl (fun q=>absurd q (by decide)) (fun q=>?_)
 refine wwn ?_
 refine qAa rfl (fun q=>absurd q (by decide)) (fun q=>?_)
 refine wwn ?_
 refine qAa rfl (fun q=>?_) (fun q=>absurd q (by decide))
 refine qAh ?_
 refine wws ?_
 refine qAe (qAr rfl rfl (hN3 18 (by omega) (by omega)) [0] (by decide) rfl rfl rfl rfl rfl rfl rfl) rfl ?_
 refine wws ?_
 refine qAe (qAr rfl rfl (hN4 18 (by omega) (by omega)) [0] (by decide) rfl rfl rfl rfl rfl rfl rfl) rfl ?_
 refine wws ?_
 refine qAs (l:=[(3,.ptr 1 0),(4,.ptr 2 0)]) (h':=[.row (qAk L a4),.row [.d (.sl 5 (qAc root)),.d (.sl 2 (qAf apps)),.d (.str zone),.d (.sl 1 (qAg number)),.d (.sl 1 (qAg pin)),.d (.sl 1 (qAg puk)),.I (IntKind.i64.wrap (x 18-1)),.I (IntKind.i64.wrap (y 18-1)),.d (.bool basic),.d (.sl 5 (qAt infos)),.I ck,.I ak,.d (.sl 5 (qAp tps)),.I tday,.d (.sl 1 (qAg ident)),.d (.sl 1 (qAg seed))],.row qFu]) yf ?_ ?_
 ·refine ⟨ObLe.refl _,⟨?_,?_,?_,?_,?_,?_,?_,?_,?_,?_,?_,?_,?_,?_,?_,?_,trivial⟩,ObLe.refl _,trivial⟩ <;> first | exact .refl _ | exact .dat | exact .nils
 refine qAl (qAh ?_)
 refine qAe (qBg (i:=1) (off:=0) hT rfl rfl rfl (L16 (C:=[.d (.sl 5 (qAc root)),.d (.sl 2 (qAf apps)),.d (.str zone),.d (.sl 1 (qAg number)),.d (.sl 1 (qAg pin)),.d (.sl 1 (qAg puk)),.I (IntKind.i64.wrap (x 18-1)),.I (IntKind.i64.wrap (y 18-1)),.d (.bool basic),.d (.sl 5 (qAt infos)),.I ck,.I ak,.d (.sl 5 (qAp tps)),.I tday,.d (.sl 1 (qAg ident)),.d (.sl 1 (qAg seed))]) rfl)) rfl ?_
 refine qBb (qAz (i:=2) (off:=0) hT rfl rfl rfl (S16 (C:=[.d (.sl 5 (qAc root)),.d (.sl 2 (qAf apps)),.d (.str zone),.d (.sl 1 (qAg number)),.d (.sl 1 (qAg pin)),.d (.sl 1 (qAg puk)),.I (IntKind.i64.wrap (x 18-1)),.I (IntKind.i64.wrap (y 18-1)),.d (.bool basic),.d (.sl 5 (qAt infos)),.I ck,.I ak,.d (.sl 5 (qAp tps)),.I tday,.d (.sl 1 (qAg ident)),.d (.sl 1 (qAg seed))]) rfl rfl)) (forceS_eq _ _) ?_
 refine qBm ?_
 refine wwn ?_
 exact qCy ⟨(⟨root,apps,zone,number,pin,puk,(IntKind.i64.wrap (x 18-1)),(IntKind.i64.wrap (y 18-1)),basic,infos,ck,ak,tps,tday,ident,seed⟩,a4),⟨⟨⟨hod.len.root,hod.len.apps,hod.len.str,hod.len.infos,hod.len.tps⟩,hod.sd,hod.tps⟩,g4⟩,rfl,rfl⟩ rfl (.refl _) rfl rfl rfl rfl
theorem qYt (L:List Int) (hL:L.length≤1000000) (a:Nat) (ha:a≤L.length) (p:Per) (hp:MkQ p) (hv:nxV L a 10=4) :
  Spec Tryz.prog 18 [.ptr 0 0,qBw p] [.row (qAk L a)] (fun r h'=>∃ x:Per×Nat,OdR L x∧r=qBw x.1∧h'=[.row (qAk L x.2)]):=by
 have hN2:=qAq L hL a ha 10 (by omega) (by omega)
 rw [hv] at hN2
 have g2:=nxA_le ha
 generalize nxA L a=a2 at hN2 g2
 have hOI:=qLa L hL a2 g2 p.infos (by have:=hp.infos;omega)
 have hil:=hp.infos
 obtain ⟨x,a3,e5,e6,g3,hx,hN3⟩:=qAo L hL a2 g2
 obtain ⟨y,a4,e7,e8,g4,hy,hN4⟩:=qAo L hL a3 g3
 have hOL:∃ (l':List Inf) (b':Nat),qKj L a2 p.infos=(l',b')∧b'≤L.length∧l'.length≤100:=by
  refine ⟨(qKj L a2 p.infos).1,(qKj L a2 p.infos).2,rfl,?_,?_⟩
  ·unfold qKj
   split
   ·exact nxA_le g2
   ·rw [e6,e8];simp only
    split
    ·exact nxA_le g4
    ·exact g4
  ·unfold qKj
   split
   ·simp
   ·simp only [qNe]
    repeat' split
    all_goals simp
    all_goals omega
 obtain ⟨l',b',ho1,ho2,ho3⟩:=hOL
 rw [ho1] at hOI
 simp only at hOI
 clear e5 e6 e7 e8 hv
 have hod:=hp.od
 clear hp
 obtain ⟨root,apps,zone,number,pin,puk,pr,ur,basic,infos,ck,ak,tps,tday,ident,seed⟩:=p
 simp only at hOI
 refine qAb hT Tryz.func18 rfl rfl rfl rfl ?_;intro E hE
 refine qAi (qAi ?_)
 refine qAl (qAh ?_)
 refine qAe (boxAt_ok (i0:=1) (cs:=[.d (.sl 5 (qAc root)),.d (.sl 2 (qAf apps)),.d (.str zone),.d (.sl 1 (qAg number)),.d (.sl 1 (qAg pin)),.d (.sl 1 (qAg puk)),.I pr,.I ur,.d (.bool basic),.d (.sl 5 (qAt infos)),.I ck,.I ak,.d (.sl 5 (qAp tps)),.I tday,.d (.sl 1 (qAg ident)),.d (.sl 1 (qAg seed))]) rfl rfl rfl) rfl ?_
 refine qAe (allocAt_ok (i0:=2) (i:=((T.find 50).getD ⟨.str,0,0,[]⟩)) hT rfl rfl rfl) rfl ?_
 refine wws ?_
 refine qAs (l:=[(0,.ptr 0 0),(3,.ptr 1 0),(4,.ptr 2 0)]) (h':=[.row (qAk L a),.row [.d (.sl 5 (qAc root)),.d (.sl 2 (qAf apps)),.d (.str zone),.d (.sl 1 (qAg number)),.d (.sl 1 (qAg pin)),.d (.sl 1 (qAg puk)),.I pr,.I ur,.d (.bool basic),.d (.sl 5 (qAt infos)),.I ck,.I ak,.d (.sl 5 (qAp tps)),.I tday,.d (.sl 1 (qAg ident)),.d (.sl 1 (qAg seed))],.row qFu]) yf (HLe.refl _) ?_
 refine qAl ?_
 refine wwn ?_
 refine qAe (qAr rfl rfl (hN2) [0] (by decide) rfl rfl rfl rfl rfl rfl rfl) rfl ?_
 refine wwn ?_
 refine qAa rfl (fun q=>absurd q (by decide)) (fun q=>?_)
 refine wwn ?_
 refine qAa rfl (fun q=>absurd q (by decide)) (fun q=>?_)
 refine wwn ?_
 refine qAa rfl (fun q=>absurd q (by decide)) (fun q=>?_)
 refine wwn ?_
 refine qAa rfl (fun q=>absurd q (by decide)) (fun q=>?_)
 refine wwn ?_
 refine qAa rfl (fun q=>?_) (fun q=>absurd q (by decide))
 refine qAh ?_
 refine wws ?_
 refine qAe (qAr rfl rfl (hOI) [0] (by decide) rfl rfl rfl rfl rfl rfl rfl) rfl ?_
 refine wws ?_
 refine qAs (l:=[(3,.ptr 1 0),(4,.ptr 2 0)]) (h':=[.row (qAk L b'),.row [.d (.sl 5 (qAc root)),.d (.sl 2 (qAf apps)),.d (.str zone),.d (.sl 1 (qAg number)),.d (.sl 1 (qAg pin)),.d (.sl 1 (qAg puk)),.I pr,.I ur,.d (.bool basic),.d (.sl 5 (qAt l')),.I ck,.I ak,.d (.sl 5 (qAp tps)),.I tday,.d (.sl 1 (qAg ident)),.d (.sl 1 (qAg seed))],.row qFu]) yf ?_ ?_
 ·refine ⟨ObLe.refl _,⟨?_,?_,?_,?_,?_,?_,?_,?_,?_,?_,?_,?_,?_,?_,?_,?_,trivial⟩,ObLe.refl _,trivial⟩ <;> first | exact .refl _ | exact .dat | exact .nils
 refine qAl (qAh ?_)
 refine qAe (qBg (i:=1) (off:=0) hT rfl rfl rfl (L16 (C:=[.d (.sl 5 (qAc root)),.d (.sl 2 (qAf apps)),.d (.str zone),.d (.sl 1 (qAg number)),.d (.sl 1 (qAg pin)),.d (.sl 1 (qAg puk)),.I pr,.I ur,.d (.bool basic),.d (.sl 5 (qAt l')),.I ck,.I ak,.d (.sl 5 (qAp tps)),.I tday,.d (.sl 1 (qAg ident)),.d (.sl 1 (qAg seed))]) rfl)) rfl ?_
 refine qBb (qAz (i:=2) (off:=0) hT rfl rfl rfl (S16 (C:=[.d (.sl 5 (qAc root)),.d (.sl 2 (qAf apps)),.d (.str zone),.d (.sl 1 (qAg number)),.d (.sl 1 (qAg pin)),.d (.sl 1 (qAg puk)),.I pr,.I ur,.d (.bool basic),.d (.sl 5 (qAt l')),.I ck,.I ak,.d (.sl 5 (qAp tps)),.I tday,.d (.sl 1 (qAg ident)),.d (.sl 1 (qAg seed))]) rfl rfl)) (forceS_eq _ _) ?_
 refine qBm ?_
 refine wwn ?_
 exact qCy ⟨(⟨root,apps,zone,number,pin,puk,pr,ur,basic,l',ck,ak,tps,tday,ident,seed⟩,b'),⟨⟨⟨hod.len.root,hod.len.apps,hod.len.str,by simp only;omega,hod.len.tps⟩,hod.sd,hod.tps⟩,ho2⟩,rfl,rfl⟩ rfl (.refl _) rfl rfl rfl rfl
theorem qYs (L:List Int) (hL:L.length≤1000000) (a:Nat) (ha:a≤L.length) (p:Per) (hp:MkQ p) (hv:nxV L a 10=5) :
  Spec Tryz.prog 18 [.ptr 0 0,qBw p] [.row (qAk L a)] (fun r h'=>∃ x:Per×Nat,OdR L x∧r=qBw x.1∧h'=[.row (qAk L x.2)]):=by
 have hN2:=qAq L hL a ha 10 (by omega) (by omega)
 rw [hv] at hN2
 have g2:=nxA_le ha
 generalize nxA L a=a2 at hN2 g2
 obtain ⟨x,a3,e5,e6,g3,hx,hN3⟩:=qAo L hL a2 g2
 obtain ⟨y,a4,e7,e8,g4,hy,hN4⟩:=qAo L hL a3 g3
 clear e5 e6 e7 e8 hv
 have hod:=hp.od
 clear hp
 obtain ⟨root,apps,zone,number,pin,puk,pr,ur,basic,infos,ck,ak,tps,tday,ident,seed⟩:=p
 refine qAb hT Tryz.func18 rfl rfl rfl rfl ?_;intro E hE
 refine qAi (qAi ?_)
 refine qAl (qAh ?_)
 refine qAe (boxAt_ok (i0:=1) (cs:=[.d (.sl 5 (qAc root)),.d (.sl 2 (qAf apps)),.d (.str zone),.d (.sl 1 (qAg number)),.d (.sl 1 (qAg pin)),.d (.sl 1 (qAg puk)),.I pr,.I ur,.d (.bool basic),.d (.sl 5 (qAt infos)),.I ck,.I ak,.d (.sl 5 (qAp tps)),.I tday,.d (.sl 1 (qAg ident)),.d (.sl 1 (qAg seed))]) rfl rfl rfl) rfl ?_
 refine qAe (allocAt_ok (i0:=2) (i:=((T.find 50).getD ⟨.str,0,0,[]⟩)) hT rfl rfl rfl) rfl ?_
 refine wws ?_
 refine qAs (l:=[(0,.ptr 0 0),(3,.ptr 1 0),(4,.ptr 2 0)]) (h':=[.row (qAk L a),.row [.d (.sl 5 (qAc root)),.d (.sl 2 (qAf apps)),.d (.str zone),.d (.sl 1 (qAg number)),.d (.sl 1 (qAg pin)),.d (.sl 1 (qAg puk)),.I pr,.I ur,.d (.bool basic),.d (.sl 5 (qAt infos)),.I ck,.I ak,.d (.sl 5 (qAp tps)),.I tday,.d (.sl 1 (qAg ident)),.d (.sl 1 (qAg seed))],.row qFu]) yf (HLe.refl _) ?_
 refine qAl ?_
 refine wwn ?_
 refine qAe (qAr rfl rfl (hN2) [0] (by decide) rfl rfl rfl rfl rfl rfl rfl) rfl ?_
 refine wwn ?_
 refine qAa rfl (fun q=>absurd q (by decide)) (fun q=>?_)
 refine wwn ?_
 refine qAa rfl (fun q=>absurd q (by decide)) (fun q=>?_)
 refine wwn ?_
 refine qAa rfl (fun q=>absurd q (by decide)) (fun q=>?_)
 refine wwn ?_
 refine qAa rfl (fun q=>absurd q (by decide)) (fun q=>?_)
 refine wwn ?_
 refine qAa rfl (fun q=>absurd q (by decide)) (fun q=>?_)
 refine wwn ?_
 refine qAa rfl (fun q=>?_) (fun q=>absurd q (by decide))
 have hx1:=hx 4 (by omega)
 have hat:=pkI_at (T:=[-1,0,1073741788,1073741789]) hx1
 refine qAh ?_
 refine wws ?_
 refine qAe (qAr rfl rfl (hN3 4 (by omega) (by omega)) [0] (by decide) rfl rfl rfl rfl rfl rfl rfl) rfl ?_
 refine wws ?_
 refine wwi hat ?_
 refine wws ?_
 refine qAs (l:=[(3,.ptr 1 0),(4,.ptr 2 0)]) (h':=[.row (qAk L a3),.row [.d (.sl 5 (qAc root)),.d (.sl 2 (qAf apps)),.d (.str zone),.d (.sl 1 (qAg number)),.d (.sl 1 (qAg pin)),.d (.sl 1 (qAg puk)),.I pr,.I ur,.d (.bool basic),.d (.sl 5 (qAt infos)),.I (pkI [-1,0,1073741788,1073741789] (x 4)),.I ak,.d (.sl 5 (qAp tps)),.I tday,.d (.sl 1 (qAg ident)),.d (.sl 1 (qAg seed))],.row qFu]) yf ?_ ?_
 ·refine ⟨ObLe.refl _,⟨?_,?_,?_,?_,?_,?_,?_,?_,?_,?_,?_,?_,?_,?_,?_,?_,trivial⟩,ObLe.refl _,trivial⟩ <;> first | exact .refl _ | exact .dat | exact .nils
 refine qAl (qAh ?_)
 refine qAe (qBg (i:=1) (off:=0) hT rfl rfl rfl (L16 (C:=[.d (.sl 5 (qAc root)),.d (.sl 2 (qAf apps)),.d (.str zone),.d (.sl 1 (qAg number)),.d (.sl 1 (qAg pin)),.d (.sl 1 (qAg puk)),.I pr,.I ur,.d (.bool basic),.d (.sl 5 (qAt infos)),.I (pkI [-1,0,1073741788,1073741789] (x 4)),.I ak,.d (.sl 5 (qAp tps)),.I tday,.d (.sl 1 (qAg ident)),.d (.sl 1 (qAg seed))]) rfl)) rfl ?_
 refine qBb (qAz (i:=2) (off:=0) hT rfl rfl rfl (S16 (C:=[.d (.sl 5 (qAc root)),.d (.sl 2 (qAf apps)),.d (.str zone),.d (.sl 1 (qAg number)),.d (.sl 1 (qAg pin)),.d (.sl 1 (qAg puk)),.I pr,.I ur,.d (.bool basic),.d (.sl 5 (qAt infos)),.I (pkI [-1,0,1073741788,1073741789] (x 4)),.I ak,.d (.sl 5 (qAp tps)),.I tday,.d (.sl 1 (qAg ident)),.d (.sl 1 (qAg seed))]) rfl rfl)) (forceS_eq _ _) ?_
 refine qBm ?_
 refine wwn ?_
 exact qCy ⟨(⟨root,apps,zone,number,pin,puk,pr,ur,basic,infos,(pkI [-1,0,1073741788,1073741789] (x 4)),ak,tps,tday,ident,seed⟩,a3),⟨⟨⟨hod.len.root,hod.len.apps,hod.len.str,hod.len.infos,hod.len.tps⟩,hod.sd,hod.tps⟩,g3⟩,rfl,rfl⟩ rfl (.refl _) rfl rfl rfl rfl
theorem qYr (L:List Int) (hL:L.length≤1000000) (a:Nat) (ha:a≤L.length) (p:Per) (hp:MkQ p) (hv:nxV L a 10=6) :
  Spec Tryz.prog 18 [.ptr 0 0,qBw p] [.row (qAk L a)] (fun r h'=>∃ x:Per×Nat,OdR L x∧r=qBw x.1∧h'=[.row (qAk L x.2)]):=by
 have hN2:=qAq L hL a ha 10 (by omega) (by omega)
 rw [hv] at hN2
 have g2:=nxA_le ha
 generalize nxA L a=a2 at hN2 g2
 obtain ⟨x,a3,e5,e6,g3,hx,hN3⟩:=qAo L hL a2 g2
 obtain ⟨y,a4,e7,e8,g4,hy,hN4⟩:=qAo L hL a3 g3
 clear e5 e6 e7 e8 hv
 have hod:=hp.od
 clear hp
 obtain ⟨root,apps,zone,number,pin,puk,pr,ur,basic,infos,ck,ak,tps,tday,ident,seed⟩:=p
 refine qAb hT Tryz.func18 rfl rfl rfl rfl ?_;intro E hE
 refine qAi (qAi ?_)
 refine qAl (qAh ?_)
 refine qAe (boxAt_ok (i0:=1) (cs:=[.d (.sl 5 (qAc root)),.d (.sl 2 (qAf apps)),.d (.str zone),.d (.sl 1 (qAg number)),.d (.sl 1 (qAg pin)),.d (.sl 1 (qAg puk)),.I pr,.I ur,.d (.bool basic),.d (.sl 5 (qAt infos)),.I ck,.I ak,.d (.sl 5 (qAp tps)),.I tday,.d (.sl 1 (qAg ident)),.d (.sl 1 (qAg seed))]) rfl rfl rfl) rfl ?_
 refine qAe (allocAt_ok (i0:=2) (i:=((T.find 50).getD ⟨.str,0,0,[]⟩)) hT rfl rfl rfl) rfl ?_
 refine wws ?_
 refine qAs (l:=[(0,.ptr 0 0),(3,.ptr 1 0),(4,.ptr 2 0)]) (h':=[.row (qAk L a),.row [.d (.sl 5 (qAc root)),.d (.sl 2 (qAf apps)),.d (.str zone),.d (.sl 1 (qAg number)),.d (.sl 1 (qAg pin)),.d (.sl 1 (qAg puk)),.I pr,.I ur,.d (.bool basic),.d (.sl 5 (qAt infos)),.I ck,.I ak,.d (.sl 5 (qAp tps)),.I tday,.d (.sl 1 (qAg ident)),.d (.sl 1 (qAg seed))],.row qFu]) yf (HLe.refl _) ?_
 refine qAl ?_
 refine wwn ?_
 refine qAe (qAr rfl rfl (hN2) [0] (by decide) rfl rfl rfl rfl rfl rfl rfl) rfl ?_
 refine wwn ?_
 refine qAa rfl (fun q=>absurd q (by decide)) (fun q=>?_)
 refine wwn ?_
 refine qAa rfl (fun q=>absurd q (by decide)) (fun q=>?_)
 refine wwn ?_
 refine qAa rfl (fun q=>absurd q (by decide)) (fun q=>?_)
 refine wwn ?_
 refine qAa rfl (fun q=>absurd q (by decide)) (fun q=>?_)
 refine wwn ?_
 refine qAa rfl (fun q=>absurd q (by decide)) (fun q=>?_)
 refine wwn ?_
 refine qAa rfl (fun q=>absurd q (by decide)) (fun q=>?_)
 refine wwn ?_
 refine qAa rfl (fun q=>?_) (fun q=>absurd q (by decide))
 refine qAh ?_
 refine wws ?_
 refine qAs (l:=[(3,.ptr 1 0),(4,.ptr 2 0)]) (h':=[.row (qAk L a2),.row [.d (.sl 5 (qAc root)),.d (.sl 2 (qAf apps)),.d (.str zone),.d (.sl 1 (qAg number)),.d (.sl 1 (qAg pin)),.d (.sl 1 (qAg puk)),.I pr,.I ur,.d (.bool basic),.d (.sl 5 (qAt infos)),.I ck,.I ak,.d (.sl 5 (qAp [])),.I tday,.d (.sl 1 (qAg ident)),.d (.sl 1 (qAg seed))],.row qFu]) yf ?_ ?_
 ·refine ⟨ObLe.refl _,⟨?_,?_,?_,?_,?_,?_,?_,?_,?_,?_,?_,?_,?_,?_,?_,?_,trivial⟩,ObLe.refl _,trivial⟩ <;> first | exact .refl _ | exact .dat | exact .nils
 refine qAl (qAh ?_)
 refine qAe (qBg (i:=1) (off:=0) hT rfl rfl rfl (L16 (C:=[.d (.sl 5 (qAc root)),.d (.sl 2 (qAf apps)),.d (.str zone),.d (.sl 1 (qAg number)),.d (.sl 1 (qAg pin)),.d (.sl 1 (qAg puk)),.I pr,.I ur,.d (.bool basic),.d (.sl 5 (qAt infos)),.I ck,.I ak,.d (.sl 5 (qAp [])),.I tday,.d (.sl 1 (qAg ident)),.d (.sl 1 (qAg seed))]) rfl)) rfl ?_
 refine qBb (qAz (i:=2) (off:=0) hT rfl rfl rfl (S16 (C:=[.d (.sl 5 (qAc root)),.d (.sl 2 (qAf apps)),.d (.str zone),.d (.sl 1 (qAg number)),.d (.sl 1 (qAg pin)),.d (.sl 1 (qAg puk)),.I pr,.I ur,.d (.bool basic),.d (.sl 5 (qAt infos)),.I ck,.I ak,.d (.sl 5 (qAp [])),.I tday,.d (.sl 1 (qAg ident)),.d (.sl 1 (qAg seed))]) rfl rfl)) (forceS_eq _ _) ?_
 refine qBm ?_
 refine wwn ?_
 exact qCy ⟨(⟨root,apps,zone,number,pin,puk,pr,ur,basic,infos,ck,ak,[],tday,ident,seed⟩,a2),⟨⟨⟨hod.len.root,hod.len.apps,hod.len.str,hod.len.infos,by simp⟩,hod.sd,fun t h=>by cases h⟩,g2⟩,rfl,rfl⟩ rfl (.refl _) rfl rfl rfl rfl
theorem qYq (L:List Int) (hL:L.length≤1000000) (a:Nat) (ha:a≤L.length) (p:Per) (hp:MkQ p) (hv:nxV L a 10=7) :
  Spec Tryz.prog 18 [.ptr 0 0,qBw p] [.row (qAk L a)] (fun r h'=>∃ x:Per×Nat,OdR L x∧r=qBw x.1∧h'=[.row (qAk L x.2)]):=by
 have hN2:=qAq L hL a ha 10 (by omega) (by omega)
 rw [hv] at hN2
 have g2:=nxA_le ha
 generalize nxA L a=a2 at hN2 g2
 obtain ⟨x,a3,e5,e6,g3,hx,hN3⟩:=qAo L hL a2 g2
 obtain ⟨y,a4,e7,e8,g4,hy,hN4⟩:=qAo L hL a3 g3
 clear e5 e6 e7 e8 hv
 have hod:=hp.od
 clear hp
 obtain ⟨root,apps,zone,number,pin,puk,pr,ur,basic,infos,ck,ak,tps,tday,ident,seed⟩:=p
 refine qAb hT Tryz.func18 rfl rfl rfl rfl ?_;intro E hE
 refine qAi (qAi ?_)
 refine qAl (qAh ?_)
 refine qAe (boxAt_ok (i0:=1) (cs:=[.d (.sl 5 (qAc root)),.d (.sl 2 (qAf apps)),.d (.str zone),.d (.sl 1 (qAg number)),.d (.sl 1 (qAg pin)),.d (.sl 1 (qAg puk)),.I pr,.I ur,.d (.bool basic),.d (.sl 5 (qAt infos)),.I ck,.I ak,.d (.sl 5 (qAp tps)),.I tday,.d (.sl 1 (qAg ident)),.d (.sl 1 (qAg seed))]) rfl rfl rfl) rfl ?_
 refine qAe (allocAt_ok (i0:=2) (i:=((T.find 50).getD ⟨.str,0,0,[]⟩)) hT rfl rfl rfl) rfl ?_
 refine wws ?_
 refine qAs (l:=[(0,.ptr 0 0),(3,.ptr 1 0),(4,.ptr 2 0)]) (h':=[.row (qAk L a),.row [.d (.sl 5 (qAc root)),.d (.sl 2 (qAf apps)),.d (.str zone),.d (.sl 1 (qAg number)),.d (.sl 1 (qAg pin)),.d (.sl 1 (qAg puk)),.I pr,.I ur,.d (.bool basic),.d (.sl 5 (qAt infos)),.I ck,.I ak,.d (.sl 5 (qAp tps)),.I tday,.d (.sl 1 (qAg ident)),.d (.sl 1 (qAg seed))],.row qFu]) yf (HLe.refl _) ?_
 refine qAl ?_
 refine wwn ?_
 refine qAe (qAr rfl rfl (hN2) [0] (by decide) rfl rfl rfl rfl rfl rfl rfl) rfl ?_
 refine wwn ?_
 refine qAa rfl (fun q=>absurd q (by decide)) (fun q=>?_)
 refine wwn ?_
 refine qAa rfl (fun q=>absurd q (by decide)) (fun q=>?_)
 refine wwn ?_
 refine qAa rfl (fun q=>absurd q (by decide)) (fun q=>?_)
 refine wwn ?_
 refine qAa rfl (fun q=>absurd q (by decide)) (fun q=>?_)
 refine wwn ?_
 refine qAa rfl (fun q=>absurd q (by decide)) (fun q=>?_)
 refine wwn ?_
 refine qAa rfl (fun q=>absurd q (by decide)) (fun q=>?_)
 refine wwn ?_
 refine qAa rfl (fun q=>absurd q (by decide)) (fun q=>?_)
 refine wwn ?_
 refine qAa rfl (fun q=>?_) (fun q=>absurd q (by decide))
 have hx1:=hx 3 (by omega)
 have hat:=pkI_at (T:=[0,32,33]) hx1
 have hpm:=pkI_mem (T:=[0,32,33]) hx1
 obtain ⟨n,hn1,hn⟩:∃ n:Nat,pkI [0,32,33] (x 3)=(n:Int)∧n≤33:=⟨(pkI [0,32,33] (x 3)).toNat,by simp at hpm;omega,by simp at hpm;omega⟩
 rw [hn1] at hat
 refine qAh ?_
 refine wws ?_
 refine qAe (qAr rfl rfl (hN3 3 (by omega) (by omega)) [0] (by decide) rfl rfl rfl rfl rfl rfl rfl) rfl ?_
 refine wws ?_
 refine wwi hat ?_
 refine wws ?_
 refine qAe (makeDat_ok (n:=n) (z:=.int .u8 0) hT rfl rfl rfl rfl (by show 1*n≤_;omega) (by omega)) rfl ?_
 rw [encB_zeros]
 refine wws ?_
 refine qAs (l:=[(3,.ptr 1 0),(4,.ptr 2 0)]) (h':=[.row (qAk L a3),.row [.d (.sl 5 (qAc root)),.d (.sl 2 (qAf apps)),.d (.str zone),.d (.sl 1 (qAg number)),.d (.sl 1 (qAg pin)),.d (.sl 1 (qAg puk)),.I pr,.I ur,.d (.bool basic),.d (.sl 5 (qAt infos)),.I ck,.I ak,.d (.sl 5 (qAp tps)),.I tday,.d (.sl 1 (qAg (List.replicate n 0))),.d (.sl 1 (qAg seed))],.row qFu]) yf ?_ ?_
 ·refine ⟨ObLe.refl _,⟨?_,?_,?_,?_,?_,?_,?_,?_,?_,?_,?_,?_,?_,?_,?_,?_,trivial⟩,ObLe.refl _,trivial⟩ <;> first | exact .refl _ | exact .dat | exact .nils
 refine qAl (qAh ?_)
 refine qAe (qBg (i:=1) (off:=0) hT rfl rfl rfl (L16 (C:=[.d (.sl 5 (qAc root)),.d (.sl 2 (qAf apps)),.d (.str zone),.d (.sl 1 (qAg number)),.d (.sl 1 (qAg pin)),.d (.sl 1 (qAg puk)),.I pr,.I ur,.d (.bool basic),.d (.sl 5 (qAt infos)),.I ck,.I ak,.d (.sl 5 (qAp tps)),.I tday,.d (.sl 1 (qAg (List.replicate n 0))),.d (.sl 1 (qAg seed))]) rfl)) rfl ?_
 refine qBb (qAz (i:=2) (off:=0) hT rfl rfl rfl (S16 (C:=[.d (.sl 5 (qAc root)),.d (.sl 2 (qAf apps)),.d (.str zone),.d (.sl 1 (qAg number)),.d (.sl 1 (qAg pin)),.d (.sl 1 (qAg puk)),.I pr,.I ur,.d (.bool basic),.d (.sl 5 (qAt infos)),.I ck,.I ak,.d (.sl 5 (qAp tps)),.I tday,.d (.sl 1 (qAg (List.replicate n 0))),.d (.sl 1 (qAg seed))]) rfl rfl)) (forceS_eq _ _) ?_
 refine qBm ?_
 refine wwn ?_
 exact qCy ⟨(⟨root,apps,zone,number,pin,puk,pr,ur,basic,infos,ck,ak,tps,tday,(List.replicate n 0),seed⟩,a3),⟨⟨⟨hod.len.root,hod.len.apps,⟨hod.len.str.1,hod.len.str.2.1,hod.len.str.2.2.1,by simp only [List.length_replicate];omega,hod.len.str.2.2.2.2⟩,hod.len.infos,hod.len.tps⟩,hod.sd,hod.tps⟩,g3⟩,rfl,rfl⟩ rfl (.refl _) rfl rfl rfl rfl
theorem qYp (L:List Int) (hL:L.length≤1000000) (a:Nat) (ha:a≤L.length) (p:Per) (hp:MkQ p) (hv:nxV L a 10=8) :
  Spec Tryz.prog 18 [.ptr 0 0,qBw p] [.row (qAk L a)] (fun r h'=>∃ x:Per×Nat,OdR L x∧r=qBw x.1∧h'=[.row (qAk L x.2)]):=by
 have hN2:=qAq L hL a ha 10 (by omega) (by omega)
 rw [hv] at hN2
 have g2:=nxA_le ha
 generalize nxA L a=a2 at hN2 g2
 obtain ⟨x,a3,e5,e6,g3,hx,hN3⟩:=qAo L hL a2 g2
 obtain ⟨y,a4,e7,e8,g4,hy,hN4⟩:=qAo L hL a3 g3
 clear e5 e6 e7 e8 hv
 have hod:=hp.od
 clear hp
 obtain ⟨root,apps,zone,number,pin,puk,pr,ur,basic,infos,ck,ak,tps,tday,ident,seed⟩:=p
 refine qAb hT Tryz.func18 rfl rfl rfl rfl ?_;intro E hE
 refine qAi (qAi ?_)
 refine qAl (qAh ?_)
 refine qAe (boxAt_ok (i0:=1) (cs:=[.d (.sl 5 (qAc root)),.d (.sl 2 (qAf apps)),.d (.str zone),.d (.sl 1 (qAg number)),.d (.sl 1 (qAg pin)),.d (.sl 1 (qAg puk)),.I pr,.I ur,.d (.bool basic),.d (.sl 5 (qAt infos)),.I ck,.I ak,.d (.sl 5 (qAp tps)),.I tday,.d (.sl 1 (qAg ident)),.d (.sl 1 (qAg seed))]) rfl rfl rfl) rfl ?_
 refine qAe (allocAt_ok (i0:=2) (i:=((T.find 50).getD ⟨.str,0,0,[]⟩)) hT rfl rfl rfl) rfl ?_
 refine wws ?_
 refine qAs (l:=[(0,.ptr 0 0),(3,.ptr 1 0),(4,.ptr 2 0)]) (h':=[.row (qAk L a),.row [.d (.sl 5 (qAc root)),.d (.sl 2 (qAf apps)),.d (.str zone),.d (.sl 1 (qAg number)),.d (.sl 1 (qAg pin)),.d (.sl 1 (qAg puk)),.I pr,.I ur,.d (.bool basic),.d (.sl 5 (qAt infos)),.I ck,.I ak,.d (.sl 5 (qAp tps)),.I tday,.d (.sl 1 (qAg ident)),.d (.sl 1 (qAg seed))],.row qFu]) yf (HLe.refl _) ?_
 refine qAl ?_
 refine wwn ?_
 refine qAe (qAr rfl rfl (hN2) [0] (by decide) rfl rfl rfl rfl rfl rfl rfl) rfl ?_
 refine wwn ?_
 refine qAa rfl (fun q=>absurd q (by decide)) (fun q=>?_)
 refine wwn ?_
 refine qAa rfl (fun q=>absurd q (by decide)) (fun q=>?_)
 refine wwn ?_
 refine qAa rfl (fun q=>absurd q (by decide)) (fun q=>?_)
 refine wwn ?_
 refine qAa rfl (fun q=>absurd q (by decide)) (fun q=>?_)
 refine wwn ?_
 refine qAa rfl (fun q=>absurd q (by decide)) (fun q=>?_)
 refine wwn ?_
 refine qAa rfl (fun q=>absurd q (by decide)) (fun q=>?_)
 refine wwn ?_
 refine qAa rfl (fun q=>absurd q (by decide)) (fun q=>?_)
 refine wwn ?_
 refine qAa rfl (fun q=>absurd q (by decide)) (fun q=>?_)
 refine wwn ?_
 refine qAa rfl (fun q=>?_) (fun q=>absurd q (by decide))
 have hx_n:=hx 2 (by omega)
 have hq_n:=hN3 2 (by omega) (by omega)
 obtain ⟨n,he_n⟩:∃ n:Nat,x 2=(n:Int):=⟨(x 2).toNat,by omega⟩
 rw [he_n] at hx_n hq_n
 have hw_n:IntKind.i64.wrap (64+(n:Int))=((64+n:Nat):Int):=by rw [qAj (by omega)];omega
 refine qAh ?_
 refine wws ?_
 refine qAe (qAr rfl rfl (hq_n) [0] (by decide) rfl rfl rfl rfl rfl rfl rfl) rfl ?_
 refine wws ?_
 refine qAe (makeDat_ok (n:=64+n) (z:=.int .u8 0) hT rfl rfl (by show AV.d (.int .i64 (IntKind.i64.wrap (64+(n:Int))))=_;rw [hw_n]) (by show AV.d (.int .i64 (IntKind.i64.wrap (64+(n:Int))))=_;rw [hw_n]) (by show 1*(64+n)≤_;omega) (by omega)) rfl ?_
 rw [encB_zeros]
 refine wws ?_
 refine qAs (l:=[(3,.ptr 1 0),(4,.ptr 2 0)]) (h':=[.row (qAk L a3),.row [.d (.sl 5 (qAc root)),.d (.sl 2 (qAf apps)),.d (.str zone),.d (.sl 1 (qAg number)),.d (.sl 1 (qAg pin)),.d (.sl 1 (qAg puk)),.I pr,.I ur,.d (.bool basic),.d (.sl 5 (qAt infos)),.I ck,.I ak,.d (.sl 5 (qAp tps)),.I tday,.d (.sl 1 (qAg ident)),.d (.sl 1 (qAg (List.replicate (64+n) 0)))],.row qFu]) yf ?_ ?_
 ·refine ⟨ObLe.refl _,⟨?_,?_,?_,?_,?_,?_,?_,?_,?_,?_,?_,?_,?_,?_,?_,?_,trivial⟩,ObLe.refl _,trivial⟩ <;> first | exact .refl _ | exact .dat | exact .nils
 refine qAl (qAh ?_)
 refine qAe (qBg (i:=1) (off:=0) hT rfl rfl rfl (L16 (C:=[.d (.sl 5 (qAc root)),.d (.sl 2 (qAf apps)),.d (.str zone),.d (.sl 1 (qAg number)),.d (.sl 1 (qAg pin)),.d (.sl 1 (qAg puk)),.I pr,.I ur,.d (.bool basic),.d (.sl 5 (qAt infos)),.I ck,.I ak,.d (.sl 5 (qAp tps)),.I tday,.d (.sl 1 (qAg ident)),.d (.sl 1 (qAg (List.replicate (64+n) 0)))]) rfl)) rfl ?_
 refine qBb (qAz (i:=2) (off:=0) hT rfl rfl rfl (S16 (C:=[.d (.sl 5 (qAc root)),.d (.sl 2 (qAf apps)),.d (.str zone),.d (.sl 1 (qAg number)),.d (.sl 1 (qAg pin)),.d (.sl 1 (qAg puk)),.I pr,.I ur,.d (.bool basic),.d (.sl 5 (qAt infos)),.I ck,.I ak,.d (.sl 5 (qAp tps)),.I tday,.d (.sl 1 (qAg ident)),.d (.sl 1 (qAg (List.replicate (64+n) 0)))]) rfl rfl)) (forceS_eq _ _) ?_
 refine qBm ?_
 refine wwn ?_
 exact qCy ⟨(⟨root,apps,zone,number,pin,puk,pr,ur,basic,infos,ck,ak,tps,tday,ident,(List.replicate (64+n) 0)⟩,a3),⟨⟨⟨hod.len.root,hod.len.apps,⟨hod.len.str.1,hod.len.str.2.1,hod.len.str.2.2.1,hod.len.str.2.2.2.1,by simp only [List.length_replicate];omega⟩,hod.len.infos,hod.len.tps⟩,by simp only [List.length_replicate];omega,hod.tps⟩,g3⟩,rfl,rfl⟩ rfl (.refl _) rfl rfl rfl rfl
theorem qYo (L:List Int) (hL:L.length≤1000000) (a:Nat) (ha:a≤L.length) (p:Per) (hp:MkQ p) (hv:nxV L a 10=9) :
  Spec Tryz.prog 18 [.ptr 0 0,qBw p] [.row (qAk L a)] (fun r h'=>∃ x:Per×Nat,OdR L x∧r=qBw x.1∧h'=[.row (qAk L x.2)]):=by
 have hN2:=qAq L hL a ha 10 (by omega) (by omega)
 rw [hv] at hN2
 have g2:=nxA_le ha
 generalize nxA L a=a2 at hN2 g2
 obtain ⟨x,a3,e5,e6,g3,hx,hN3⟩:=qAo L hL a2 g2
 obtain ⟨y,a4,e7,e8,g4,hy,hN4⟩:=qAo L hL a3 g3
 clear e5 e6 e7 e8 hv
 have hod:=hp.od
 clear hp
 obtain ⟨root,apps,zone,number,pin,puk,pr,ur,basic,infos,ck,ak,tps,tday,ident,seed⟩:=p
 refine qAb hT Tryz.func18 rfl rfl rfl rfl ?_;intro E hE
 refine qAi (qAi ?_)
 refine qAl (qAh ?_)
 refine qAe (boxAt_ok (i0:=1) (cs:=[.d (.sl 5 (qAc root)),.d (.sl 2 (qAf apps)),.d (.str zone),.d (.sl 1 (qAg number)),.d (.sl 1 (qAg pin)),.d (.sl 1 (qAg puk)),.I pr,.I ur,.d (.bool basic),.d (.sl 5 (qAt infos)),.I ck,.I ak,.d (.sl 5 (qAp tps)),.I tday,.d (.sl 1 (qAg ident)),.d (.sl 1 (qAg seed))]) rfl rfl rfl) rfl ?_
 refine qAe (allocAt_ok (i0:=2) (i:=((T.find 50).getD ⟨.str,0,0,[]⟩)) hT rfl rfl rfl) rfl ?_
 refine wws ?_
 refine qAs (l:=[(0,.ptr 0 0),(3,.ptr 1 0),(4,.ptr 2 0)]) (h':=[.row (qAk L a),.row [.d (.sl 5 (qAc root)),.d (.sl 2 (qAf apps)),.d (.str zone),.d (.sl 1 (qAg number)),.d (.sl 1 (qAg pin)),.d (.sl 1 (qAg puk)),.I pr,.I ur,.d (.bool basic),.d (.sl 5 (qAt infos)),.I ck,.I ak,.d (.sl 5 (qAp tps)),.I tday,.d (.sl 1 (qAg ident)),.d (.sl 1 (qAg seed))],.row qFu]) yf (HLe.refl _) ?_
 refine qAl ?_
 refine wwn ?_
 refine qAe (qAr rfl rfl (hN2) [0] (by decide) rfl rfl rfl rfl rfl rfl rfl) rfl ?_
 refine wwn ?_
 refine qAa rfl (fun q=>absurd q (by decide)) (fun q=>?_)
 refine wwn ?_
 refine qAa rfl (fun q=>absurd q (by decide)) (fun q=>?_)
 refine wwn ?_
 refine qAa rfl (fun q=>absurd q (by decide)) (fun q=>?_)
 refine wwn ?_
 refine qAa rfl (fun q=>absurd q (by decide)) (fun q=>?_)
 refine wwn ?_
 refine qAa rfl (fun q=>absurd q (by decide)) (fun q=>?_)
 refine wwn ?_
 refine qAa rfl (fun q=>absurd q (by decide)) (fun q=>?_)
 refine wwn ?_
 refine qAa rfl (fun q=>absurd q (by decide)) (fun q=>?_)
 refine wwn ?_
 refine qAa rfl (fun q=>absurd q (by decide)) (fun q=>?_)
 refine wwn ?_
 refine qAa rfl (fun q=>absurd q (by decide)) (fun q=>?_)
 refine wwn ?_
 have hx_n:=hx 2 (by omega)
 have hq_n:=hN3 2 (by omega) (by omega)
 obtain ⟨n,he_n⟩:∃ n:Nat,x 2=(n:Int):=⟨(x 2).toNat,by omega⟩
 rw [he_n] at hx_n hq_n
 have hw_n:IntKind.i64.wrap (16+(n:Int))=((16+n:Nat):Int):=by rw [qAj (by omega)];omega
 refine qAe (qAr rfl rfl (hq_n) [0] (by decide) rfl rfl rfl rfl rfl rfl rfl) rfl ?_
 refine wws ?_
 refine qAe (makeDat_ok (n:=16+n) (z:=.int .u8 0) hT rfl rfl (by show AV.d (.int .i64 (IntKind.i64.wrap (16+(n:Int))))=_;rw [hw_n]) (by show AV.d (.int .i64 (IntKind.i64.wrap (16+(n:Int))))=_;rw [hw_n]) (by show 1*(16+n)≤_;omega) (by omega)) rfl ?_
 rw [encB_zeros]
 refine wws ?_
 refine qAs (l:=[(3,.ptr 1 0),(4,.ptr 2 0)]) (h':=[.row (qAk L a3),.row [.d (.sl 5 (qAc root)),.d (.sl 2 (qAf apps)),.d (.str zone),.d (.sl 1 (qAg number)),.d (.sl 1 (qAg pin)),.d (.sl 1 (qAg (List.replicate (16+n) 0))),.I pr,.I ur,.d (.bool basic),.d (.sl 5 (qAt infos)),.I ck,.I ak,.d (.sl 5 (qAp tps)),.I tday,.d (.sl 1 (qAg ident)),.d (.sl 1 (qAg seed))],.row qFu]) yf ?_ ?_
 ·refine ⟨ObLe.refl _,⟨?_,?_,?_,?_,?_,?_,?_,?_,?_,?_,?_,?_,?_,?_,?_,?_,trivial⟩,ObLe.refl _,trivial⟩ <;> first | exact .refl _ | exact .dat | exact .nils
 refine qAl (qAh ?_)
 refine qAe (qBg (i:=1) (off:=0) hT rfl rfl rfl (L16 (C:=[.d (.sl 5 (qAc root)),.d (.sl 2 (qAf apps)),.d (.str zone),.d (.sl 1 (qAg number)),.d (.sl 1 (qAg pin)),.d (.sl 1 (qAg (List.replicate (16+n) 0))),.I pr,.I ur,.d (.bool basic),.d (.sl 5 (qAt infos)),.I ck,.I ak,.d (.sl 5 (qAp tps)),.I tday,.d (.sl 1 (qAg ident)),.d (.sl 1 (qAg seed))]) rfl)) rfl ?_
 refine qBb (qAz (i:=2) (off:=0) hT rfl rfl rfl (S16 (C:=[.d (.sl 5 (qAc root)),.d (.sl 2 (qAf apps)),.d (.str zone),.d (.sl 1 (qAg number)),.d (.sl 1 (qAg pin)),.d (.sl 1 (qAg (List.replicate (16+n) 0))),.I pr,.I ur,.d (.bool basic),.d (.sl 5 (qAt infos)),.I ck,.I ak,.d (.sl 5 (qAp tps)),.I tday,.d (.sl 1 (qAg ident)),.d (.sl 1 (qAg seed))]) rfl rfl)) (forceS_eq _ _) ?_
 refine qBm ?_
 refine wwn ?_
 exact qCy ⟨(⟨root,apps,zone,number,pin,(List.replicate (16+n) 0),pr,ur,basic,infos,ck,ak,tps,tday,ident,seed⟩,a3),⟨⟨⟨hod.len.root,hod.len.apps,⟨hod.len.str.1,hod.len.str.2.1,by simp only [List.length_replicate];omega,hod.len.str.2.2.2⟩,hod.len.infos,hod.len.tps⟩,hod.sd,hod.tps⟩,g3⟩,rfl,rfl⟩ rfl (.refl _) rfl rfl rfl rfl
theorem qUm (L:List Int) (hL:L.length≤1000000) (a:Nat) (ha:a≤L.length) (p:Per) (hp:MkQ p) :
  Spec Tryz.prog 18 [.ptr 0 0,qBw p] [.row (qAk L a)] (fun r h'=>∃ x:Per×Nat,OdR L x∧r=qBw x.1∧h'=[.row (qAk L x.2)]):=by
 have hv:=nxV_range (L:=L) (a:=a) (n:=10) (by omega)
 rcases (by omega:nxV L a 10=0∨nxV L a 10=1∨nxV L a 10=2∨nxV L a 10=3∨nxV L a 10=4∨nxV L a 10=5∨nxV L a 10=6∨nxV L a 10=7∨nxV L a 10=8∨nxV L a 10=9) with h | h | h | h | h | h | h | h | h | h
 ·exact qYx L hL a ha p hp h
 ·exact qYw L hL a ha p hp h
 ·exact qYv L hL a ha p hp h
 ·exact qYu L hL a ha p hp h
 ·exact qYt L hL a ha p hp h
 ·exact qYs L hL a ha p hp h
 ·exact qYr L hL a ha p hp h
 ·exact qYq L hL a ha p hp h
 ·exact qYp L hL a ha p hp h
 ·exact qYo L hL a ha p hp h
theorem qLy (m0 m1 r:List UInt8) (hm:m0=qBv 0 r) (hz:m1=List.replicate 265 0) (hr:r.length≤256) :
  Spec Tryz.prog 98 [.agg [.d (.sl 1 (qAg m0)),.d (.sl 1 (qAg m1))]] [] (fun v h'=>v=.I 0∧h'=[]):=by
 obtain ⟨f1,f2,_,f4,_⟩:=imageB_facts r hr
 have h1:=compOn_spec (qBv 0 r) r f1 f2 f4 hr
 have h2:=compOff_spec (List.replicate 265 (0:UInt8)) zeros_facts.1 zeros_facts.2
 rw [← hm] at h1
 rw [← hz] at h2
 clear hm hz f1 f2 f4
 refine qAb hT Tryz.func98 rfl rfl rfl rfl ?_;intro E hE
 refine ww ?_
 first | refine qAe (qAd (arrPtr_ok hT rfl rfl rfl rfl (by decide))) rfl ?_ | refine qBh (qAd (arrPtr_ok hT rfl rfl rfl rfl (by decide))) rfl rfl ?_
 refine ww ?_
 refine wwc h1 ?_
 refine ww ?_
 first | refine qAe (qAd (arrPtr_ok hT rfl rfl rfl rfl (by decide))) rfl ?_ | refine qBh (qAd (arrPtr_ok hT rfl rfl rfl rfl (by decide))) rfl rfl ?_
 refine ww ?_
 refine wwc h2 ?_
 refine ww ?_
 refine qAa rfl (fun c1=>?_) (fun c1=>?_)
 ·exact absurd c1 (by simp)
 refine ww ?_
 refine qAa rfl (fun c2=>?_) (fun c2=>?_)
 ·refine ww ?_
  exact wwr
 ·exact absurd c2 (by simp)
theorem qNu (m0 m1 r:List UInt8) (hm:m0=qBv 0 r) (hz:m1=List.replicate 265 0) (hr:r.length≤256) :
  Spec Tryz.prog 57 [.agg [.d (.sl 1 (qAg m0)),.d (.sl 1 (qAg m1))]] [] (fun v h'=>v=.tup [.d (.sl 1 (qAg r)),.I 0]∧h'=[]):=by
 have h1:=qLy m0 m1 r hm hz hr
 obtain ⟨f1,f2,_,f4,f5⟩:=imageB_facts r hr
 rw [← hm] at f1 f2 f4 f5
 have h2:=qGq m0 f1
 rw [f4] at h2
 have w9:IntKind.i64.wrap (9+(r.length:Int))=((9+r.length:Nat):Int):=by rw [qAj (by omega)];simp
 have g3:qHx (qAg m0) (9:Int) ((9+r.length:Nat):Int)=qAg r:=by
  unfold qHx
  rw [encB_drop,encB_take]
  show qAg ((m0.drop 9).take (9+r.length-9))=_
  rw [Nat.add_sub_cancel_left,f5]
 have hl0:=encB_length m0
 clear hm hz f2 f4 f5
 refine qAb hT Tryz.func57 rfl rfl rfl rfl ?_;intro E hE
 refine ww ?_
 refine wwc h1 ?_
 refine ww ?_
 refine qAa rfl (fun c1=>?_) (fun c1=>?_)
 ·exact absurd c1 (by simp)
 refine ww ?_
 first | refine qAe (qAd (arrPtr_ok hT rfl rfl rfl rfl (by decide))) rfl ?_ | refine qBh (qAd (arrPtr_ok hT rfl rfl rfl rfl (by decide))) rfl rfl ?_
 refine ww ?_
 refine wwc h2 ?_
 refine ww ?_
 rw [w9]
 refine ww ?_
 rw [g3]
 refine qAe (qBe (es:=[]) (es2:=qAg r) hT rfl rfl rfl (.inr ⟨rfl,rfl⟩) rfl (by show (0+(qAg r).length)*(1+1)≤_;rw [encB_length];omega)) rfl ?_
 refine ww ?_
 exact wwr
theorem qNv (p:Per) (m0 m1 seed:List UInt8) (on:Bool) (pa pf:Int) (nonce r:List UInt8) (hm:m0=qBv 0 r) (hz:m1=List.replicate 265 0) (hr:r.length≤256) :
  Spec Tryz.prog 25 [.agg (chG p m0 m1 seed on pa pf nonce)] [] (fun v h'=>v=qTy (qGs r)∧h'=[]):=by
 have h1:=qNu m0 m1 r hm hz hr
 have h2:=decRc28_spec r (by omega)
 clear hm hz
 generalize qGs r=o at h2 ⊢
 cases o with
 | none =>
  simp only [qTy] at h2 ⊢
  refine qAb hT Tryz.func25 rfl rfl rfl rfl ?_;intro E hE
  refine qAi ?_
  refine qAl (qAh ?_)
  refine qAe (boxAt_ok (i0:=0) (cs:=chG p m0 m1 seed on pa pf nonce) rfl rfl rfl) rfl ?_
  refine ww ?_
  refine wwc h1 ?_
  refine ww ?_
  refine qAa rfl (fun c1=>?_) (fun c1=>?_)
  ·exact absurd c1 (by simp)
  refine ww ?_
  refine wwc h2 ?_
  refine ww ?_
  exact wwr
 | some w =>
  obtain ⟨pr,ur,pin,l,day⟩:=w
  simp only [qTy] at h2 ⊢
  refine qAb hT Tryz.func25 rfl rfl rfl rfl ?_;intro E hE
  refine qAi ?_
  refine qAl (qAh ?_)
  refine qAe (boxAt_ok (i0:=0) (cs:=chG p m0 m1 seed on pa pf nonce) rfl rfl rfl) rfl ?_
  refine ww ?_
  refine wwc h1 ?_
  refine ww ?_
  refine qAa rfl (fun c1=>?_) (fun c1=>?_)
  ·exact absurd c1 (by simp)
  refine ww ?_
  refine wwc h2 ?_
  refine ww ?_
  exact wwr
theorem newC_get (p:Per) (hp:OdP p):∃ (q:Per) (m0 m1 sd:List UInt8),qWj p=chG q m0 m1 sd false 0 0 []∧m0.length≤1000∧m1.length≤1000∧sd.length≤100∧(qCi p=0→q=p∧m0=mem0 p∧m1=List.replicate 265 0∧sd=p.seed):=by
 unfold qWj
 split
 ·refine ⟨p,mem0 p,List.replicate 265 0,p.seed,rfl,?_,by rw [List.length_replicate];omega,hp.sd,fun _=>⟨rfl,rfl,rfl,rfl⟩⟩
  unfold mem0
  have hrl:=recF_len (pr:=p.pr) (ur:=p.ur) (pin:=p.pin) (l:=p.tps) (day:=p.tday)
  rw [(imageB_facts _ (by omega)).1];omega
 ·rename_i h
  exact ⟨per0,[],[],[],rfl,by simp,by simp,by simp,fun h'=>absurd h' h⟩
theorem qRn {p:Per} (h:qCi p=0):(qJj p.pr p.ur p.pin p.tps p.tday).2=0∧qEl p.root p.apps=0:=by
 unfold qCi at h
 split at h
 ·rename_i h1;exact absurd h h1
 rename_i h1
 split at h
 ·cases h
 rename_i h2
 split at h
 ·cases h
 rename_i h3
 split at h
 ·rename_i h4;exact absurd h h4
 split at h
 ·cases h
 split at h
 ·rename_i h5;exact absurd h h5
 rename_i h5
 refine ⟨?_,by simpa using h1⟩
 have hv:qBk p.tps p.tday=0:=by simpa using h5
 have he:(qBp p.tps p.tday).2=0:=by unfold qBp;rw [if_neg h5]
 unfold qJj
 rw [if_neg (by omega),if_neg (by omega),if_neg (by rw [he];simp)]
theorem chipNews_spec (t:List Int) (raw:Per) (hraw:PerAny raw) :
  Spec Tryz.prog 4 [.d (.sl 1 (qNf t)),qBw raw] [] (fun r h'=>r=.d (.bool true)∧h'=[]):=by
 have hAw:=qMn
 have hLi:=qRc t
 have hV1:=validPW_spec raw hraw
 have hV2:=qFb raw hraw
 unfold qBw at hV1 hV2 ⊢
 generalize qCi raw=vr at hV1 hV2
 by_cases hl:t.length≤400
 ·have hR:=qMt t (by omega)
  have hM:=qPz t (by omega) 0 (Nat.zero_le _)
  rw [decide_eq_true hl] at hLi
  refine qAb hT Tryz.func4 rfl rfl rfl rfl ?_;intro E hE
  refine qAi (qAi (qAi (qAi (qAi (qAi (qAi ?_))))))
  refine qAl (qAh ?_)
  refine qAe (boxAt_ok (i0:=1) (cs:=qBj raw) rfl rfl rfl) rfl ?_
  refine wws ?_
  refine wwn ?_
  refine wwc hLi ?_
  refine wwn ?_
  refine qAa rfl (fun c0=>?_) (fun c0=>?_)
  ·exact absurd c0 (by simp)
  refine wwn ?_
  refine qAe (qBn (v:=.ptr 0 0) (H':=[.row (qAk t 0),.row (qBj raw),.room,.room,.room,.room,.room]) rfl rfl hR [0] (by decide) rfl rfl rfl rfl rfl rfl rfl) rfl ?_
  refine wws ?_
  refine qAl (qAh ?_)
  refine wk hT rfl rfl ?_
  refine qJa (qVa rfl rfl (hM) [0] (by decide) rfl rfl rfl rfl (fun _=>rfl) (fun _=>rfl) (fun _=>rfl)) rfl ?_
  rintro ⟨p,a1⟩ ⟨hp,ha1⟩
  simp only at hp ha1 ⊢
  refine qAe (allocAt_ok (i0:=2) (i:=(T.find 50).getD ⟨.str,0,0,[]⟩) hT rfl rfl rfl) rfl ?_
  refine qBb (qAz (i:=2) (off:=0) hT rfl rfl rfl (S16 (C:=qUg p) rfl rfl)) (forceS_eq _ _) ?_
  refine qBm ?_
  refine qAs (l:=[(3,.ptr 1 0),(5,.ptr 0 0),(6,.ptr 2 0)]) (h':=[.row (qAk t a1),.row (qBj raw),.row (qBj p),.room,.room,.room,.room]) yf ⟨ObLe.refl _,ObLe.refl _,⟨.refl _,.refl _,.refl _,.refl _,.refl _,.refl _,.refl _,.refl _,.refl _,.refl _,.refl _,.refl _,.dat,.refl _,.refl _,.refl _,trivial⟩,ObLe.refl _,ObLe.refl _,ObLe.refl _,ObLe.refl _,trivial⟩ ?_
  have hO:=qGk t (by omega) a1 ha1 2 (by omega) (by omega)
  have ha2:=nxA_le ha1
  have hod:=qUm t (by omega) _ ha2 p hp
  generalize nxV t a1 2=v at hO
  generalize nxA t a1=a2 at hO ha2 hod
  refine qAl (qJc (Q:=fun e τ h=>e=.normal∧∃ p:Per,OdP p∧SubL τ [(3,.ptr 1 0),(6,.ptr 2 0)]∧HLe h [.dead,.row (qBj raw),.row (qBj p),.room,.room,.room,.room]) ?_ ?_)
  ·refine wwn ?_
   refine qAe (qAr rfl rfl (hO) [0] (by decide) rfl rfl rfl rfl rfl rfl rfl) rfl ?_
   refine wwn ?_
   refine qAa rfl (fun c1=>?_) (fun c1=>?_)
   ·refine qAh ?_
    refine wk hT rfl rfl ?_
    refine qAe (qBg (i:=2) (off:=0) hT rfl rfl rfl (L16 (C:=qBj p) rfl)) rfl ?_
    refine qJa (qVa rfl rfl (hod) [0] (by decide) rfl rfl rfl rfl (fun _=>rfl) (fun _=>rfl) (fun _=>rfl)) rfl ?_
    rintro ⟨p',a3⟩ ⟨hp',ha3⟩
    simp only at hp' ha3 ⊢
    refine qBb (qAz (i:=2) (off:=0) hT rfl rfl rfl (S16 (C:=qBj p') rfl rfl)) (forceS_eq _ _) ?_
    refine qBm ?_
    exact ⟨by first | rfl | trivial,p',hp',yf,⟨trivial,ObLe.refl _,ObLe.refl _,ObLe.refl _,ObLe.refl _,ObLe.refl _,ObLe.refl _,trivial⟩⟩
   ·refine wwe ?_
    exact ⟨by first | rfl | trivial,p,hp.od,yf,⟨trivial,ObLe.refl _,ObLe.refl _,ObLe.refl _,ObLe.refl _,ObLe.refl _,ObLe.refl _,trivial⟩⟩
  ·clear hO hod hp hM hR
   rintro e τ h ⟨rfl,p,hp,t1,t2⟩
   refine qAs t1 t2 ?_
   have hn1:=newP_spec p hp.len hp.tps
   have hn2:=qPx p hp.len hp.tps
   have hV3:=validPW_spec p (hp.len.any hp.tps)
   have hV4:=qFb p (hp.len.any hp.tps)
   unfold qBw at hn1 hn2 hV3 hV4
   obtain ⟨q,m0,m1,sd,hC,hm0,hm1,hsd,hval⟩:=newC_get p hp
   rw [hC] at hn1 hn2
   obtain ⟨vp,hvp⟩:∃ z,z=qCi p:=⟨_,rfl⟩
   rw [← hvp] at hn1 hn2 hV3 hV4
   have hSm:=qIf q q m0 m1 sd false 0 0 [] (by omega) (by omega) (by omega) (by simp)
   refine qAl (qAh ?_)
   refine qAe (qBg (i:=2) (off:=0) hT rfl rfl rfl (L16 (C:=qBj p) rfl)) rfl ?_
   refine wwc hn1 ?_
   refine wk hT rfl rfl ?_
   refine wk hT rfl rfl ?_
   refine wk hT rfl rfl ?_
   refine qAe (allocAt_ok (i0:=3) (i:=tiC) hT rfl tiC_find rfl) rfl ?_
   refine qBb (qAz (i:=3) (off:=0) hT rfl rfl rfl (S60 (C:=chG q m0 m1 sd false 0 0 []) rfl rfl)) (forceS_eq _ _) ?_
   refine wws ?_
   refine qAl (qAh ?_)
   refine qAe (qBg (i:=2) (off:=0) hT rfl rfl rfl (L16 (C:=qBj p) rfl)) rfl ?_
   refine wwc hn2 ?_
   refine wk hT rfl rfl ?_
   refine wk hT rfl rfl ?_
   refine wk hT rfl rfl ?_
   refine qAe (allocAt_ok (i0:=4) (i:=tiC) hT rfl tiC_find rfl) rfl ?_
   refine qBb (qAz (i:=4) (off:=0) hT rfl rfl rfl (S60 (C:=chG q m0 m1 sd false 0 0 []) rfl rfl)) (forceS_eq _ _) ?_
   refine wws ?_
   refine qAs (l:=[(3,.ptr 1 0),(6,.ptr 2 0),(7,.ptr 3 0),(8,.I vp),(9,.ptr 4 0),(10,.I vp)]) (h':=[.dead,.row (qBj raw),.row (qBj p),.row (chG q m0 m1 sd false 0 0 []),.row (chG q m0 m1 sd false 0 0 []),.room,.room]) yf (HLe.refl _) ?_
   refine qAl ?_
   refine qAl (qOk mixed (by kernel_rfl) ?_)
   refine wwc hAw ?_
   refine wwn ?_
   refine wwgc hV1 ?_
   refine wwn ?_
   refine wwgc hV2 ?_
   refine wwn ?_
   rw [show (vr != vr)=false by simp]
   refine wwn ?_
   refine qCp hT rfl rfl rfl (fun _=>rfl) ?_
   refine wwn ?_
   refine wwgc hV3 ?_
   refine wwn ?_
   refine wwgc hV4 ?_
   refine wwn ?_
   rw [show (vp != vp)=false by simp]
   refine wwn ?_
   refine qCp hT rfl rfl rfl (fun _=>rfl) ?_
   refine wwn ?_
   rw [show (vp != vp)=false by simp]
   refine qCp hT rfl rfl rfl (fun _=>rfl) ?_
   refine qCp hT rfl rfl rfl trivial ?_
   refine qCw rfl rfl rfl rfl (fun hg=>⟨(sg (C:=True) hg).1,qBg (i:=3) (off:=0) hT rfl rfl rfl (L60 (C:=chG q m0 m1 sd false 0 0 []) rfl)⟩) ?_
   refine qCw rfl rfl rfl rfl (fun hg=>⟨(sg (C:=True) hg).1,qBg (i:=4) (off:=0) hT rfl rfl rfl (L60 (C:=chG q m0 m1 sd false 0 0 []) rfl)⟩) ?_
   refine wwgc hSm ?_
   refine wwn ?_
   refine qCp hT rfl rfl rfl (fun _=>rfl) ?_
   refine wwn ?_
   refine qAa rfl (fun h=>absurd h (by decide)) (fun _=>?_)
   refine wwn ?_
   refine qAa rfl (fun h=>?_) (fun c3=>?_)
   ·refine wwn ?_
    exact wwr
   have hv0:qCi p=0:=by rw [← hvp];simpa using c3
   obtain ⟨rfl,hm,hz,hs⟩:=hval hv0
   obtain ⟨hrec,hvf⟩:=qRn hv0
   have hback:=recF_back hrec
   have hrl:=recF_len (pr:=q.pr) (ur:=q.ur) (pin:=q.pin) (l:=q.tps) (day:=q.tday)
   have hk1:=qMe q m0 m1 sd false 0 0 [] _ hm hz (by omega)
   have hk2:=qNv q m0 m1 sd false 0 0 [] _ hm hz (by omega)
   rw [hback] at hk1 hk2
   simp only [qTy] at hk1 hk2
   have hSr:=sameRc_self q.pr q.ur q.pin q.tps q.tday (by have:=hp.len.str.2.1;omega) (by have:=hp.len.tps;omega)
   have hP1:=powerC_spec q hp.len m0 m1 false 0 0 [] (by omega) (by omega) (by simp)
   have hP2:=qLv q m0 m1 false 0 0 []
   rw [← hs] at hP1 hP2
   have hSp:=qIf q q m0 m1 sd true (-1) (-1) [] (by omega) (by omega) (by omega) (by simp)
   have hVf:=qGy q.root q.apps (by have:=hp.len.root.1;omega) (by have:=hp.len.apps.1;omega) (fun a ha=>by have:=(hp.len.apps.2.1 a ha).1;omega)
   rw [hvf] at hVf
   clear hm hz hs hrec hback hrl hval hv0 hvf hC hn1 hn2
   unfold qEa at hSr
   refine qAs (l:=[(7,.ptr 3 0),(9,.ptr 4 0)]) (h':=[.dead,.dead,.dead,.row (chG q m0 m1 sd false 0 0 []),.row (chG q m0 m1 sd false 0 0 []),.room,.room]) yf ⟨ObLe.refl _,trivial,trivial,ObLe.refl _,ObLe.refl _,ObLe.refl _,ObLe.refl _,trivial⟩ ?_
   refine qFz ?_
   refine qAl (qAh ?_)
   refine qAe (qBg (i:=3) (off:=0) hT rfl rfl rfl (L60 (C:=chG q m0 m1 sd false 0 0 []) rfl)) rfl ?_
   refine wwc hk1 ?_
   refine wk hT rfl rfl ?_
   refine wk hT rfl rfl ?_
   refine wk hT rfl rfl ?_
   refine qAe (allocAt_ok (i0:=5) (i:=(T.find 27).getD ⟨.str,0,0,[]⟩) hT rfl rfl rfl) rfl ?_
   refine wws ?_
   refine qAl (qAh ?_)
   refine qAe (qBg (i:=4) (off:=0) hT rfl rfl rfl (L60 (C:=chG q m0 m1 sd false 0 0 []) rfl)) rfl ?_
   refine wwc hk2 ?_
   refine wk hT rfl rfl ?_
   refine wk hT rfl rfl ?_
   refine wk hT rfl rfl ?_
   refine qAe (allocAt_ok (i0:=6) (i:=(T.find 27).getD ⟨.str,0,0,[]⟩) hT rfl rfl rfl) rfl ?_
   refine wws ?_
   refine qAs (l:=[(7,.ptr 3 0),(9,.ptr 4 0),(11,.ptr 5 0),(12,.I 0),(13,.ptr 6 0),(14,.I 0)]) (h':=[.dead,.dead,.dead,.row (chG q m0 m1 sd false 0 0 []),.row (chG q m0 m1 sd false 0 0 []),.row (qEa q.pr q.ur q.pin q.tps q.tday),.row (qEa q.pr q.ur q.pin q.tps q.tday)]) yf (HLe.refl _) ?_
   unfold qEa
   clear hk1 hk2
   refine qAl (qOk mixed (by kernel_rfl) ?_)
   refine wwn ?_
   rw [show ((0:Int) == 0)=true from rfl]
   try refine qCp hT rfl rfl rfl (fun _=>rfl) ?_
   refine wwn ?_
   refine wwgc hSr ?_
   refine wwn ?_
   refine qCp hT rfl rfl rfl (fun _=>rfl) ?_
   refine qCp hT rfl rfl rfl trivial ?_
   refine qCw rfl rfl rfl rfl (fun hg=>⟨(sg (C:=True) hg).1,qBg (i:=3) (off:=0) hT rfl rfl rfl (L60 (C:=chG q m0 m1 sd false 0 0 []) rfl)⟩) ?_
   refine wwgc hP1 ?_
   refine qCw rfl rfl rfl rfl (fun hg=>⟨(sg (C:=True) hg).1,qBg (i:=4) (off:=0) hT rfl rfl rfl (L60 (C:=chG q m0 m1 sd false 0 0 []) rfl)⟩) ?_
   refine wwgc hP2 ?_
   refine wwgc hSp ?_
   refine qCp hT rfl rfl rfl (fun _=>rfl) ?_
   refine wwn ?_
   refine wwgc hVf ?_
   refine wwn ?_
   refine qCp hT rfl rfl rfl (fun _=>rfl) ?_
   refine wwn ?_
   exact qCy ⟨rfl,rfl⟩ rfl (.bool (by decide)) rfl rfl rfl rfl
 ·rw [decide_eq_false hl] at hLi
  refine qAb hT Tryz.func4 rfl rfl rfl rfl ?_;intro E hE
  refine qAi ?_
  refine qAl (qAh ?_)
  refine qAe (boxAt_ok (i0:=0) (cs:=qBj raw) rfl rfl rfl) rfl ?_
  refine wws ?_
  refine wwn ?_
  refine wwc hLi ?_
  refine wwn ?_
  refine qAa rfl (fun c0=>?_) (fun c0=>?_)
  ·refine wwn ?_
   refine wwc hAw ?_
   refine wwn ?_
   exact wwr
  ·exact absurd c0 (by simp)
end Tdoc
