/- Part 11 of the proof: the texts HV. -/
import Derived.Test.YtijghnaidinliaaGreatDoorCW10
set_option maxHeartbeats 8000000
set_option maxRecDepth 100000
set_option linter.unusedVariables false
set_option linter.unusedSimpArgs false
namespace Tdoc
open Go Go.Proofs
theorem encFils_size (l:List Fil):∀ e,e∈qAc l→e.length=5:=fun e he=>by
 obtain ⟨x,_,rfl⟩:=List.mem_map.1 he;rfl
theorem encFils_get {l:List Fil} {k:Nat} {d:Fil} (h:l[k]?=some d):(qAc l)[k]?=some (qCs d):=by unfold qAc;rw [List.getElem?_map,h];rfl
theorem encFils_set (l:List Fil) (k:Nat) (d:Fil):(qAc l).set k (qCs d)=qAc (l.set k d):=by unfold qAc;rw [List.map_set]
theorem encFils_flat (l:List Fil):(qAu (qAc l)).length=l.length*5:=by rw [flatAV_length (encFils_size l),encFils_length]
theorem encFils_app (a b:List Fil):qAc (a++b)=qAc a++qAc b:=by simp [qAc]
theorem encApks_app (a b:List Apk):qAf (a++b)=qAf a++qAf b:=by simp [qAf]
structure FsB (root:List Fil) (apps:List Apk):Prop where
 root:root.length≤100∧∀ f,f∈root→f.con.length≤5000
 apps:apps.length≤100∧∀ a,a∈apps→a.name.length≤100∧a.files.length≤100∧∀ f,f∈a.files→f.con.length≤5000
structure FsS (root:List Fil) (apps:List Apk):Prop where
 root:root.length≤50∧∀ f,f∈root→f.con.length≤5000
 apps:apps.length≤50∧∀ a,a∈apps→a.name.length≤100∧a.files.length≤100∧∀ f,f∈a.files→f.con.length≤5000
theorem FsS.b {root:List Fil} {apps:List Apk} (h:FsS root apps):FsB root apps:=⟨⟨by have:=h.root.1;omega,h.root.2⟩,⟨by have:=h.apps.1;omega,h.apps.2⟩⟩
theorem FsS.set {root:List Fil} {apps:List Apk} (h:FsS root apps) (k:Nat) (d:Fil) (hd:d.con.length≤5000):FsB (root.set k d) apps :=
 ⟨⟨by rw [List.length_set];have:=h.root.1;omega,fun f hf=>by
  rcases List.mem_or_eq_of_mem_set hf with hf | rfl
  ·exact h.root.2 f hf
  ·exact hd⟩,h.b.apps⟩
theorem FsS.appR {root:List Fil} {apps:List Apk} (h:FsS root apps) (m:List Fil) (hl:m.length≤50) (hm:∀ f,f∈m→f.con.length≤5000):FsB (root++m) apps :=
 ⟨⟨by rw [List.length_append];have:=h.root.1;omega,fun f hf=>by
  rcases List.mem_append.1 hf with hf | hf
  ·exact h.root.2 f hf
  ·exact hm f hf⟩,h.b.apps⟩
theorem FsS.appA {root:List Fil} {apps:List Apk} (h:FsS root apps) (m:List Apk) (hl:m.length≤50) (hm:∀ a,a∈m→a.name.length≤100∧a.files=[]):FsB root (apps++m) :=
 ⟨h.b.root,⟨by rw [List.length_append];have:=h.apps.1;omega,fun f hf=>by
  rcases List.mem_append.1 hf with hf | hf
  ·exact h.apps.2 f hf
  ·obtain ⟨h1,h2⟩:=hm f hf
   exact ⟨h1,by rw [h2];simp,fun g hg=>by rw [h2] at hg;cases hg⟩⟩⟩
def OddFP (L:List Int) (x:(List Fil×List Apk)×Nat):Prop:=FsB x.1.1 x.1.2∧x.2≤L.length
theorem qDc (L:List Int) (hL:L.length≤1000000) (a:Nat) (ha:a≤L.length) (n:Int) (h1:1≤n) (hn:n≤4611686018427387904) :
  Spec Tryz.prog 75 [.ptr 0 0,.I n] [.row (qAk L a)] (fun r h'=>r=.d (.int .u8 (IntKind.u8.wrap (nxV L a n)))∧h'=[.row (qAk L (nxA L a))]):=by
 have hN:=qAq L hL a ha n h1 hn
 generalize nxV L a n=v at hN ⊢
 generalize nxA L a=a1 at hN ⊢
 refine qAb hT Tryz.func75 rfl rfl rfl rfl ?_;intro E hE
 refine ww ?_
 refine qAe (qAr rfl rfl (hN) [0] (by decide) rfl rfl rfl rfl rfl rfl rfl) rfl ?_
 refine ww ?_
 exact wwr
theorem qRb (L:List Int) (hL:L.length≤1000000) (a:Nat) (ha:a≤L.length) (root:List Fil) (apps:List Apk) (hb:FsS root apps) (h0:root≠[]) (hv:nxV L (nxA L a) 9=0) :
  Spec Tryz.prog 41 [.ptr 0 0,.agg [.d (.sl 5 (qAc root)),.d (.sl 2 (qAf apps))]] [.row (qAk L a)] (fun r h'=>∃ x:(List Fil×List Apk)×Nat,OddFP L x∧r=.agg [.d (.sl 5 (qAc x.1.1)),.d (.sl 2 (qAf x.1.2))]∧h'=[.row (qAk L x.2)]):=by
 have hll:=encFils_length root
 have hal:=encApks_length apps
 have hrl:=hb.root.1
 have hpl:=hb.apps.1
 obtain ⟨m',a1,e1,e2,g1,hm',hN⟩:=qAo L hL a ha
 rw [e2] at hv
 have hN2:=qAq L hL a1 g1 9 (by omega) (by omega)
 rw [hv] at hN2
 have g2:=nxA_le g1
 generalize nxA L a1=a2 at hN2 g2
 obtain ⟨x,a3,e5,e6,g3,hx,hN3⟩:=qAo L hL a2 g2
 obtain ⟨y,a4,e7,e8,g4,hy,hN4⟩:=qAo L hL a3 g3
 have hO:=qDc L hL a2 g2 2 (by omega) (by omega)
 rw [e5,e6] at hO
 clear e1 e2 e5 e6 e7 e8 hv
 have hpos:0 < root.length:=List.length_pos_iff.2 h0
 have hN1:=hN (root.length:Int) (by omega) (by omega)
 have hv1:=hm' (root.length:Int) (by omega)
 obtain ⟨k,hk⟩:∃ k:Nat,m' (root.length:Int)=(k:Int):=⟨(m' (root.length:Int)).toNat,by omega⟩
 rw [hk] at hN1 hv1
 have hkl:k < root.length:=by omega
 obtain ⟨⟨id,sho,con,lev,rgt⟩,hd⟩:∃ d,root[k]?=some d:=⟨root[k],by simp [hkl]⟩
 have hcon:con.length≤5000:=hb.root.2 _ (List.mem_of_getElem? hd)
 clear hm' hN
 have hN1:Spec Tryz.prog 30 [.ptr 0 0,.I ((qAc root).length:Int)] [.row (qAk L a)] (fun r h'=>r=.I (k:Int)∧h'=[.row (qAk L a1)]):=by rw [hll];exact hN1
 have hfl:=encFils_flat root
 have hge:=encFils_get hd
 refine qAb hT Tryz.func41 rfl rfl rfl rfl ?_;intro E hE
 refine qAi (qAi (qAi (qAi (qAi ?_))))
 refine qAl (qAh ?_)
 refine qAe (boxAt_ok (i0:=1) (cs:=[.d (.sl 5 (qAc root)),.d (.sl 2 (qAf apps))]) rfl rfl rfl) rfl ?_
 refine qAe (allocAt_ok (i0:=2) (i:=((T.find 47).getD ⟨.str,0,0,[]⟩)) hT rfl rfl rfl) rfl ?_
 refine wws ?_
 refine qAl (qAy (fun i=>bif Nat.beq i 1 then [1] else bif Nat.beq i 4 then [1] else bif Nat.beq i 7 then [3] else bif Nat.beq i 8 then [3] else bif Nat.beq i 2 then [4] else []) (fun i=>bif Nat.beq i 7 then [3] else bif Nat.beq i 8 then [3] else bif Nat.beq i 2 then [4] else []) mixed (by kernel_rfl) ?_)
 refine wwg ?_
 refine qAm (v:=.bm 4 (qAc root).length) (os:=[.buf 5 (qAc root).length (qAu (qAc root))]) (fun kk hk1 hk2=>bufApp0_ok (i:=4) hT rfl rfl rfl (.inr rfl) (by intro h;cases h) ((hk2 4 List.mem_cons_self).trans rfl) rfl (by show (qAc root).length*(56+1)≤_;omega)) rfl ?_
 refine wwg ?_
 refine qAm (v:=.d (.sl 2 (qAf apps))) (os:=[]) (fun kk hk1 hk2=>qBe (es:=[]) (es2:=qAf apps) hT rfl rfl rfl (.inr ⟨rfl,rfl⟩) rfl (by show (0+(qAf apps).length)*(48+1)≤_;omega)) rfl ?_
 refine wwg ?_
 refine qAm (v:=.ptr 3 0) (os:=[.row ((T.find 47).getD ⟨.str,0,0,[]⟩).zero]) (fun kk hk1 hk2=>allocAt_ok (i0:=3) (i:=((T.find 47).getD ⟨.str,0,0,[]⟩)) hT rfl rfl ((hk2 3 List.mem_cons_self).trans rfl)) rfl ?_
 refine wwg ?_
 refine qAs (l:=[(0,.ptr 0 0),(4,.ptr 2 0),(5,.ptr 3 0)]) (h':=[.row (qAk L a),.dead,.row [.sl 5 [] .full,.sl 2 [] .full],.row [.bm 4 (qAc root).length,.d (.sl 2 (qAf apps))],.buf 5 (qAc root).length (qAu (qAc root)),.dead]) yf ⟨ObLe.refl _,trivial,ObLe.refl _,ObLe.refl _,ObLe.refl _,trivial,trivial⟩ ?_
 refine wwn ?_
 refine qAa rfl (fun c1=>?_) (fun c1=>?_)
 ·exact absurd c1 (by rw [hll];simp;omega)
 refine wwn ?_
 refine qAe (qAr (H':=[.row (qAk L a1),.dead,.row [.sl 5 [] .full,.sl 2 [] .full],.row [.bm 4 (qAc root).length,.d (.sl 2 (qAf apps))],.buf 5 (qAc root).length (qAu (qAc root)),.dead]) rfl rfl hN1 [0] (by decide) rfl rfl rfl rfl rfl rfl rfl) rfl ?_
 refine wwn ?_
 refine qAe (qAr (H':=[.row (qAk L a2),.dead,.row [.sl 5 [] .full,.sl 2 [] .full],.row [.bm 4 (qAc root).length,.d (.sl 2 (qAf apps))],.buf 5 (qAc root).length (qAu (qAc root)),.dead]) rfl rfl hN2 [0] (by decide) rfl rfl rfl rfl rfl rfl rfl) rfl ?_
 refine wwn ?_
 refine qAa rfl (fun q=>?_) (fun q=>absurd q (by decide))
 have hx1:=hx 4 (by omega)
 have hat:=pkI_at (T:=[0,-1,65535,65536]) hx1
 generalize pkI [0,-1,65535,65536] (x 4)=w at hat
 have hset:=flatAV_set (j:=0) (.int .i64 w) (by omega) (encFils_size root) hge
 refine qAy (fun i=>bif Nat.beq i 1 then [3] else bif Nat.beq i 9 then [4] else bif Nat.beq i 5 then [0] else bif Nat.beq i 10 then [4] else []) (fun i=>bif Nat.beq i 5 then [0] else bif Nat.beq i 10 then [4] else []) mixed (by kernel_rfl) ?_
 refine wwg ?_
 refine qAm (os:=[]) (fun kk hk1 hk2=>buildSl_ok hT rfl rfl) rfl ?_
 refine wwg ?_
 refine qAm (v:=.I (x 4)) (os:=[.row (qAk L a3)]) (fun kk hk1 hk2=>qAr rfl rfl (hN3 4 (by omega) (by omega)) [0] (by decide) (by show [kk[0]?]=[some _];rw [hk2 0 List.mem_cons_self];rfl) rfl rfl rfl rfl rfl rfl) rfl ?_
 refine qEd (indexAddr_ok hT rfl rfl rfl rfl hx1.1 hat) rfl rfl ?_
 refine wwg ?_
 refine qEd (bufAddr_ok (sz:=5) hT rfl rfl rfl rfl (by omega)) rfl rfl ?_
 refine qAm (os:=[]) (fun kk hk1 hk2=>fieldAddrB_ok hT rfl rfl ((hk2 4 List.mem_cons_self).trans rfl) rfl rfl) rfl ?_
 refine qAm (v:=.any) (os:=[.buf 5 (qAc root).length ((qAu (qAc root)).set (k*5+0) (.I w))]) (fun kk hk1 hk2=>qDa hT rfl rfl rfl ((hk2 4 List.mem_cons_self).trans rfl) rfl rfl rfl (by simp;omega) rfl) rfl ?_
 refine wwg ?_
 refine qDf 3 0 4 (qAc (root.set k ⟨w,sho,con,lev,rgt⟩)) rfl rfl rfl (by rw [encFils_length,List.length_set,hll]) (qCg (encFils_size _) (by refine hset.trans ?_;rw [← encFils_set];rfl)) rfl ?_
 refine ww ?_
 exact rq ⟨((root.set k ⟨w,sho,con,lev,rgt⟩,apps),a3),⟨hb.set k _ hcon,by first | exact g3 | exact g4 | exact g2⟩,rfl,rfl⟩ rfl (AV.le.agg ⟨.dat,.refl _,trivial⟩)
theorem qRa (L:List Int) (hL:L.length≤1000000) (a:Nat) (ha:a≤L.length) (root:List Fil) (apps:List Apk) (hb:FsS root apps) (h0:root≠[]) (hv:nxV L (nxA L a) 9=1) :
  Spec Tryz.prog 41 [.ptr 0 0,.agg [.d (.sl 5 (qAc root)),.d (.sl 2 (qAf apps))]] [.row (qAk L a)] (fun r h'=>∃ x:(List Fil×List Apk)×Nat,OddFP L x∧r=.agg [.d (.sl 5 (qAc x.1.1)),.d (.sl 2 (qAf x.1.2))]∧h'=[.row (qAk L x.2)]):=by
 have hll:=encFils_length root
 have hal:=encApks_length apps
 have hrl:=hb.root.1
 have hpl:=hb.apps.1
 obtain ⟨m',a1,e1,e2,g1,hm',hN⟩:=qAo L hL a ha
 rw [e2] at hv
 have hN2:=qAq L hL a1 g1 9 (by omega) (by omega)
 rw [hv] at hN2
 have g2:=nxA_le g1
 generalize nxA L a1=a2 at hN2 g2
 obtain ⟨x,a3,e5,e6,g3,hx,hN3⟩:=qAo L hL a2 g2
 obtain ⟨y,a4,e7,e8,g4,hy,hN4⟩:=qAo L hL a3 g3
 have hO:=qDc L hL a2 g2 2 (by omega) (by omega)
 rw [e5,e6] at hO
 clear e1 e2 e5 e6 e7 e8 hv
 have hpos:0 < root.length:=List.length_pos_iff.2 h0
 have hN1:=hN (root.length:Int) (by omega) (by omega)
 have hv1:=hm' (root.length:Int) (by omega)
 obtain ⟨k,hk⟩:∃ k:Nat,m' (root.length:Int)=(k:Int):=⟨(m' (root.length:Int)).toNat,by omega⟩
 rw [hk] at hN1 hv1
 have hkl:k < root.length:=by omega
 obtain ⟨⟨id,sho,con,lev,rgt⟩,hd⟩:∃ d,root[k]?=some d:=⟨root[k],by simp [hkl]⟩
 have hcon:con.length≤5000:=hb.root.2 _ (List.mem_of_getElem? hd)
 clear hm' hN
 have hN1:Spec Tryz.prog 30 [.ptr 0 0,.I ((qAc root).length:Int)] [.row (qAk L a)] (fun r h'=>r=.I (k:Int)∧h'=[.row (qAk L a1)]):=by rw [hll];exact hN1
 have hfl:=encFils_flat root
 have hge:=encFils_get hd
 refine qAb hT Tryz.func41 rfl rfl rfl rfl ?_;intro E hE
 refine qAi (qAi (qAi (qAi (qAi ?_))))
 refine qAl (qAh ?_)
 refine qAe (boxAt_ok (i0:=1) (cs:=[.d (.sl 5 (qAc root)),.d (.sl 2 (qAf apps))]) rfl rfl rfl) rfl ?_
 refine qAe (allocAt_ok (i0:=2) (i:=((T.find 47).getD ⟨.str,0,0,[]⟩)) hT rfl rfl rfl) rfl ?_
 refine wws ?_
 refine qAl (qAy (fun i=>bif Nat.beq i 1 then [1] else bif Nat.beq i 4 then [1] else bif Nat.beq i 7 then [3] else bif Nat.beq i 8 then [3] else bif Nat.beq i 2 then [4] else []) (fun i=>bif Nat.beq i 7 then [3] else bif Nat.beq i 8 then [3] else bif Nat.beq i 2 then [4] else []) mixed (by kernel_rfl) ?_)
 refine wwg ?_
 refine qAm (v:=.bm 4 (qAc root).length) (os:=[.buf 5 (qAc root).length (qAu (qAc root))]) (fun kk hk1 hk2=>bufApp0_ok (i:=4) hT rfl rfl rfl (.inr rfl) (by intro h;cases h) ((hk2 4 List.mem_cons_self).trans rfl) rfl (by show (qAc root).length*(56+1)≤_;omega)) rfl ?_
 refine wwg ?_
 refine qAm (v:=.d (.sl 2 (qAf apps))) (os:=[]) (fun kk hk1 hk2=>qBe (es:=[]) (es2:=qAf apps) hT rfl rfl rfl (.inr ⟨rfl,rfl⟩) rfl (by show (0+(qAf apps).length)*(48+1)≤_;omega)) rfl ?_
 refine wwg ?_
 refine qAm (v:=.ptr 3 0) (os:=[.row ((T.find 47).getD ⟨.str,0,0,[]⟩).zero]) (fun kk hk1 hk2=>allocAt_ok (i0:=3) (i:=((T.find 47).getD ⟨.str,0,0,[]⟩)) hT rfl rfl ((hk2 3 List.mem_cons_self).trans rfl)) rfl ?_
 refine wwg ?_
 refine qAs (l:=[(0,.ptr 0 0),(4,.ptr 2 0),(5,.ptr 3 0)]) (h':=[.row (qAk L a),.dead,.row [.sl 5 [] .full,.sl 2 [] .full],.row [.bm 4 (qAc root).length,.d (.sl 2 (qAf apps))],.buf 5 (qAc root).length (qAu (qAc root)),.dead]) yf ⟨ObLe.refl _,trivial,ObLe.refl _,ObLe.refl _,ObLe.refl _,trivial,trivial⟩ ?_
 refine wwn ?_
 refine qAa rfl (fun c1=>?_) (fun c1=>?_)
 ·exact absurd c1 (by rw [hll];simp;omega)
 refine wwn ?_
 refine qAe (qAr (H':=[.row (qAk L a1),.dead,.row [.sl 5 [] .full,.sl 2 [] .full],.row [.bm 4 (qAc root).length,.d (.sl 2 (qAf apps))],.buf 5 (qAc root).length (qAu (qAc root)),.dead]) rfl rfl hN1 [0] (by decide) rfl rfl rfl rfl rfl rfl rfl) rfl ?_
 refine wwn ?_
 refine qAe (qAr (H':=[.row (qAk L a2),.dead,.row [.sl 5 [] .full,.sl 2 [] .full],.row [.bm 4 (qAc root).length,.d (.sl 2 (qAf apps))],.buf 5 (qAc root).length (qAu (qAc root)),.dead]) rfl rfl hN2 [0] (by decide) rfl rfl rfl rfl rfl rfl rfl) rfl ?_
 refine wwn ?_
 refine qAa rfl (fun q=>absurd q (by decide)) (fun q=>?_)
 refine wwn ?_
 refine qAa rfl (fun q=>?_) (fun q=>absurd q (by decide))
 have hx1:=hx 3 (by omega)
 have hat:=pkI_at (T:=[-1,30,31]) hx1
 generalize pkI [-1,30,31] (x 3)=w at hat
 have hset:=flatAV_set (j:=1) (.int .i64 w) (by omega) (encFils_size root) hge
 refine qAy (fun i=>bif Nat.beq i 1 then [3] else bif Nat.beq i 9 then [4] else bif Nat.beq i 5 then [0] else bif Nat.beq i 10 then [4] else []) (fun i=>bif Nat.beq i 5 then [0] else bif Nat.beq i 10 then [4] else []) mixed (by kernel_rfl) ?_
 refine wwg ?_
 refine qAm (os:=[]) (fun kk hk1 hk2=>buildSl_ok hT rfl rfl) rfl ?_
 refine wwg ?_
 refine qAm (v:=.I (x 3)) (os:=[.row (qAk L a3)]) (fun kk hk1 hk2=>qAr rfl rfl (hN3 3 (by omega) (by omega)) [0] (by decide) (by show [kk[0]?]=[some _];rw [hk2 0 List.mem_cons_self];rfl) rfl rfl rfl rfl rfl rfl) rfl ?_
 refine qEd (indexAddr_ok hT rfl rfl rfl rfl hx1.1 hat) rfl rfl ?_
 refine wwg ?_
 refine qEd (bufAddr_ok (sz:=5) hT rfl rfl rfl rfl (by omega)) rfl rfl ?_
 refine qAm (os:=[]) (fun kk hk1 hk2=>fieldAddrB_ok hT rfl rfl ((hk2 4 List.mem_cons_self).trans rfl) rfl rfl) rfl ?_
 refine qAm (v:=.any) (os:=[.buf 5 (qAc root).length ((qAu (qAc root)).set (k*5+1) (.I w))]) (fun kk hk1 hk2=>qDa hT rfl rfl rfl ((hk2 4 List.mem_cons_self).trans rfl) rfl rfl rfl (by simp;omega) rfl) rfl ?_
 refine wwg ?_
 refine qDf 3 0 4 (qAc (root.set k ⟨id,w,con,lev,rgt⟩)) rfl rfl rfl (by rw [encFils_length,List.length_set,hll]) (qCg (encFils_size _) (by refine hset.trans ?_;rw [← encFils_set];rfl)) rfl ?_
 refine ww ?_
 exact rq ⟨((root.set k ⟨id,w,con,lev,rgt⟩,apps),a3),⟨hb.set k _ hcon,by first | exact g3 | exact g4 | exact g2⟩,rfl,rfl⟩ rfl (AV.le.agg ⟨.dat,.refl _,trivial⟩)
theorem qQz (L:List Int) (hL:L.length≤1000000) (a:Nat) (ha:a≤L.length) (root:List Fil) (apps:List Apk) (hb:FsS root apps) (h0:root≠[]) (hv:nxV L (nxA L a) 9=2) :
  Spec Tryz.prog 41 [.ptr 0 0,.agg [.d (.sl 5 (qAc root)),.d (.sl 2 (qAf apps))]] [.row (qAk L a)] (fun r h'=>∃ x:(List Fil×List Apk)×Nat,OddFP L x∧r=.agg [.d (.sl 5 (qAc x.1.1)),.d (.sl 2 (qAf x.1.2))]∧h'=[.row (qAk L x.2)]):=by
 have hll:=encFils_length root
 have hal:=encApks_length apps
 have hrl:=hb.root.1
 have hpl:=hb.apps.1
 obtain ⟨m',a1,e1,e2,g1,hm',hN⟩:=qAo L hL a ha
 rw [e2] at hv
 have hN2:=qAq L hL a1 g1 9 (by omega) (by omega)
 rw [hv] at hN2
 have g2:=nxA_le g1
 generalize nxA L a1=a2 at hN2 g2
 obtain ⟨x,a3,e5,e6,g3,hx,hN3⟩:=qAo L hL a2 g2
 obtain ⟨y,a4,e7,e8,g4,hy,hN4⟩:=qAo L hL a3 g3
 have hO:=qDc L hL a2 g2 2 (by omega) (by omega)
 rw [e5,e6] at hO
 clear e1 e2 e5 e6 e7 e8 hv
 have hpos:0 < root.length:=List.length_pos_iff.2 h0
 have hN1:=hN (root.length:Int) (by omega) (by omega)
 have hv1:=hm' (root.length:Int) (by omega)
 obtain ⟨k,hk⟩:∃ k:Nat,m' (root.length:Int)=(k:Int):=⟨(m' (root.length:Int)).toNat,by omega⟩
 rw [hk] at hN1 hv1
 have hkl:k < root.length:=by omega
 obtain ⟨⟨id,sho,con,lev,rgt⟩,hd⟩:∃ d,root[k]?=some d:=⟨root[k],by simp [hkl]⟩
 have hcon:con.length≤5000:=hb.root.2 _ (List.mem_of_getElem? hd)
 clear hm' hN
 have hN1:Spec Tryz.prog 30 [.ptr 0 0,.I ((qAc root).length:Int)] [.row (qAk L a)] (fun r h'=>r=.I (k:Int)∧h'=[.row (qAk L a1)]):=by rw [hll];exact hN1
 have hfl:=encFils_flat root
 have hge:=encFils_get hd
 refine qAb hT Tryz.func41 rfl rfl rfl rfl ?_;intro E hE
 refine qAi (qAi (qAi (qAi (qAi ?_))))
 refine qAl (qAh ?_)
 refine qAe (boxAt_ok (i0:=1) (cs:=[.d (.sl 5 (qAc root)),.d (.sl 2 (qAf apps))]) rfl rfl rfl) rfl ?_
 refine qAe (allocAt_ok (i0:=2) (i:=((T.find 47).getD ⟨.str,0,0,[]⟩)) hT rfl rfl rfl) rfl ?_
 refine wws ?_
 refine qAl (qAy (fun i=>bif Nat.beq i 1 then [1] else bif Nat.beq i 4 then [1] else bif Nat.beq i 7 then [3] else bif Nat.beq i 8 then [3] else bif Nat.beq i 2 then [4] else []) (fun i=>bif Nat.beq i 7 then [3] else bif Nat.beq i 8 then [3] else bif Nat.beq i 2 then [4] else []) mixed (by kernel_rfl) ?_)
 refine wwg ?_
 refine qAm (v:=.bm 4 (qAc root).length) (os:=[.buf 5 (qAc root).length (qAu (qAc root))]) (fun kk hk1 hk2=>bufApp0_ok (i:=4) hT rfl rfl rfl (.inr rfl) (by intro h;cases h) ((hk2 4 List.mem_cons_self).trans rfl) rfl (by show (qAc root).length*(56+1)≤_;omega)) rfl ?_
 refine wwg ?_
 refine qAm (v:=.d (.sl 2 (qAf apps))) (os:=[]) (fun kk hk1 hk2=>qBe (es:=[]) (es2:=qAf apps) hT rfl rfl rfl (.inr ⟨rfl,rfl⟩) rfl (by show (0+(qAf apps).length)*(48+1)≤_;omega)) rfl ?_
 refine wwg ?_
 refine qAm (v:=.ptr 3 0) (os:=[.row ((T.find 47).getD ⟨.str,0,0,[]⟩).zero]) (fun kk hk1 hk2=>allocAt_ok (i0:=3) (i:=((T.find 47).getD ⟨.str,0,0,[]⟩)) hT rfl rfl ((hk2 3 List.mem_cons_self).trans rfl)) rfl ?_
 refine wwg ?_
 refine qAs (l:=[(0,.ptr 0 0),(4,.ptr 2 0),(5,.ptr 3 0)]) (h':=[.row (qAk L a),.dead,.row [.sl 5 [] .full,.sl 2 [] .full],.row [.bm 4 (qAc root).length,.d (.sl 2 (qAf apps))],.buf 5 (qAc root).length (qAu (qAc root)),.dead]) yf ⟨ObLe.refl _,trivial,ObLe.refl _,ObLe.refl _,ObLe.refl _,trivial,trivial⟩ ?_
 refine wwn ?_
 refine qAa rfl (fun c1=>?_) (fun c1=>?_)
 ·exact absurd c1 (by rw [hll];simp;omega)
 refine wwn ?_
 refine qAe (qAr (H':=[.row (qAk L a1),.dead,.row [.sl 5 [] .full,.sl 2 [] .full],.row [.bm 4 (qAc root).length,.d (.sl 2 (qAf apps))],.buf 5 (qAc root).length (qAu (qAc root)),.dead]) rfl rfl hN1 [0] (by decide) rfl rfl rfl rfl rfl rfl rfl) rfl ?_
 refine wwn ?_
 refine qAe (qAr (H':=[.row (qAk L a2),.dead,.row [.sl 5 [] .full,.sl 2 [] .full],.row [.bm 4 (qAc root).length,.d (.sl 2 (qAf apps))],.buf 5 (qAc root).length (qAu (qAc root)),.dead]) rfl rfl hN2 [0] (by decide) rfl rfl rfl rfl rfl rfl rfl) rfl ?_
 refine wwn ?_
 refine qAa rfl (fun q=>absurd q (by decide)) (fun q=>?_)
 refine wwn ?_
 refine qAa rfl (fun q=>absurd q (by decide)) (fun q=>?_)
 refine wwn ?_
 refine qAa rfl (fun q=>?_) (fun q=>absurd q (by decide))
 have hx1:=hx 2 (by omega)
 have hN5:=hN3 2 (by omega) (by omega)
 obtain ⟨n,hn⟩:∃ n:Nat,x 2=(n:Int):=⟨(x 2).toNat,by omega⟩
 rw [hn] at hN5 hx1
 have hw:IntKind.i64.wrap (4096+(n:Int))=((4096+n:Nat):Int):=by rw [qAj (by omega)];omega
 have hset:=flatAV_set (j:=2) (.sl 1 (qAg (List.replicate (4096+n) 0))) (by omega) (encFils_size root) hge
 refine qAy (fun i=>bif Nat.beq i 1 then [3] else bif Nat.beq i 8 then [4] else bif Nat.beq i 4 then [0] else bif Nat.beq i 9 then [4] else []) (fun i=>bif Nat.beq i 4 then [0] else bif Nat.beq i 9 then [4] else []) mixed (by kernel_rfl) ?_
 refine wwg ?_
 refine qAm (v:=.I (n:Int)) (os:=[.row (qAk L a3)]) (fun kk hk1 hk2=>qAr rfl rfl (hN5) [0] (by decide) (by show [kk[0]?]=[some _];rw [hk2 0 List.mem_cons_self];rfl) rfl rfl rfl rfl rfl rfl) rfl ?_
 refine wwg ?_
 refine qAm (v:=.d (.sl 1 (qAg (List.replicate (4096+n) 0)))) (os:=[]) (fun kk hk1 hk2=>by rw [← encB_zeros];exact makeDat_ok (n:=4096+n) (z:=.int .u8 0) hT rfl rfl (by show AV.d (.int .i64 (IntKind.i64.wrap (4096+(n:Int))))=_;rw [hw]) (by show AV.d (.int .i64 (IntKind.i64.wrap (4096+(n:Int))))=_;rw [hw]) (by show 1*(4096+n)≤_;omega) (by omega)) rfl ?_
 refine qEd (bufAddr_ok (sz:=5) hT rfl rfl rfl rfl (by omega)) rfl rfl ?_
 refine qAm (os:=[]) (fun kk hk1 hk2=>fieldAddrB_ok hT rfl rfl ((hk2 4 List.mem_cons_self).trans rfl) rfl rfl) rfl ?_
 refine qAm (v:=.any) (os:=[.buf 5 (qAc root).length ((qAu (qAc root)).set (k*5+2) (.d (.sl 1 (qAg (List.replicate (4096+n) 0)))))]) (fun kk hk1 hk2=>qDa hT rfl rfl rfl ((hk2 4 List.mem_cons_self).trans rfl) rfl rfl rfl (by simp;omega) rfl) rfl ?_
 refine wwg ?_
 refine qDf 3 0 4 (qAc (root.set k ⟨id,sho,List.replicate (4096+n) 0,lev,rgt⟩)) rfl rfl rfl (by rw [encFils_length,List.length_set,hll]) (qCg (encFils_size _) (by refine hset.trans ?_;rw [← encFils_set];rfl)) rfl ?_
 refine ww ?_
 exact rq ⟨((root.set k ⟨id,sho,List.replicate (4096+n) 0,lev,rgt⟩,apps),a3),⟨hb.set k _ (by simp only [List.length_replicate];omega),by first | exact g3 | exact g4 | exact g2⟩,rfl,rfl⟩ rfl (AV.le.agg ⟨.dat,.refl _,trivial⟩)
theorem qQy (L:List Int) (hL:L.length≤1000000) (a:Nat) (ha:a≤L.length) (root:List Fil) (apps:List Apk) (hb:FsS root apps) (h0:root≠[]) (hv:nxV L (nxA L a) 9=3) :
  Spec Tryz.prog 41 [.ptr 0 0,.agg [.d (.sl 5 (qAc root)),.d (.sl 2 (qAf apps))]] [.row (qAk L a)] (fun r h'=>∃ x:(List Fil×List Apk)×Nat,OddFP L x∧r=.agg [.d (.sl 5 (qAc x.1.1)),.d (.sl 2 (qAf x.1.2))]∧h'=[.row (qAk L x.2)]):=by
 have hll:=encFils_length root
 have hal:=encApks_length apps
 have hrl:=hb.root.1
 have hpl:=hb.apps.1
 obtain ⟨m',a1,e1,e2,g1,hm',hN⟩:=qAo L hL a ha
 rw [e2] at hv
 have hN2:=qAq L hL a1 g1 9 (by omega) (by omega)
 rw [hv] at hN2
 have g2:=nxA_le g1
 generalize nxA L a1=a2 at hN2 g2
 obtain ⟨x,a3,e5,e6,g3,hx,hN3⟩:=qAo L hL a2 g2
 obtain ⟨y,a4,e7,e8,g4,hy,hN4⟩:=qAo L hL a3 g3
 have hO:=qDc L hL a2 g2 2 (by omega) (by omega)
 rw [e5,e6] at hO
 clear e1 e2 e5 e6 e7 e8 hv
 have hpos:0 < root.length:=List.length_pos_iff.2 h0
 have hN1:=hN (root.length:Int) (by omega) (by omega)
 have hv1:=hm' (root.length:Int) (by omega)
 obtain ⟨k,hk⟩:∃ k:Nat,m' (root.length:Int)=(k:Int):=⟨(m' (root.length:Int)).toNat,by omega⟩
 rw [hk] at hN1 hv1
 have hkl:k < root.length:=by omega
 obtain ⟨⟨id,sho,con,lev,rgt⟩,hd⟩:∃ d,root[k]?=some d:=⟨root[k],by simp [hkl]⟩
 have hcon:con.length≤5000:=hb.root.2 _ (List.mem_of_getElem? hd)
 clear hm' hN
 have hN1:Spec Tryz.prog 30 [.ptr 0 0,.I ((qAc root).length:Int)] [.row (qAk L a)] (fun r h'=>r=.I (k:Int)∧h'=[.row (qAk L a1)]):=by rw [hll];exact hN1
 have hfl:=encFils_flat root
 have hge:=encFils_get hd
 refine qAb hT Tryz.func41 rfl rfl rfl rfl ?_;intro E hE
 refine qAi (qAi (qAi (qAi (qAi ?_))))
 refine qAl (qAh ?_)
 refine qAe (boxAt_ok (i0:=1) (cs:=[.d (.sl 5 (qAc root)),.d (.sl 2 (qAf apps))]) rfl rfl rfl) rfl ?_
 refine qAe (allocAt_ok (i0:=2) (i:=((T.find 47).getD ⟨.str,0,0,[]⟩)) hT rfl rfl rfl) rfl ?_
 refine wws ?_
 refine qAl (qAy (fun i=>bif Nat.beq i 1 then [1] else bif Nat.beq i 4 then [1] else bif Nat.beq i 7 then [3] else bif Nat.beq i 8 then [3] else bif Nat.beq i 2 then [4] else []) (fun i=>bif Nat.beq i 7 then [3] else bif Nat.beq i 8 then [3] else bif Nat.beq i 2 then [4] else []) mixed (by kernel_rfl) ?_)
 refine wwg ?_
 refine qAm (v:=.bm 4 (qAc root).length) (os:=[.buf 5 (qAc root).length (qAu (qAc root))]) (fun kk hk1 hk2=>bufApp0_ok (i:=4) hT rfl rfl rfl (.inr rfl) (by intro h;cases h) ((hk2 4 List.mem_cons_self).trans rfl) rfl (by show (qAc root).length*(56+1)≤_;omega)) rfl ?_
 refine wwg ?_
 refine qAm (v:=.d (.sl 2 (qAf apps))) (os:=[]) (fun kk hk1 hk2=>qBe (es:=[]) (es2:=qAf apps) hT rfl rfl rfl (.inr ⟨rfl,rfl⟩) rfl (by show (0+(qAf apps).length)*(48+1)≤_;omega)) rfl ?_
 refine wwg ?_
 refine qAm (v:=.ptr 3 0) (os:=[.row ((T.find 47).getD ⟨.str,0,0,[]⟩).zero]) (fun kk hk1 hk2=>allocAt_ok (i0:=3) (i:=((T.find 47).getD ⟨.str,0,0,[]⟩)) hT rfl rfl ((hk2 3 List.mem_cons_self).trans rfl)) rfl ?_
 refine wwg ?_
 refine qAs (l:=[(0,.ptr 0 0),(4,.ptr 2 0),(5,.ptr 3 0)]) (h':=[.row (qAk L a),.dead,.row [.sl 5 [] .full,.sl 2 [] .full],.row [.bm 4 (qAc root).length,.d (.sl 2 (qAf apps))],.buf 5 (qAc root).length (qAu (qAc root)),.dead]) yf ⟨ObLe.refl _,trivial,ObLe.refl _,ObLe.refl _,ObLe.refl _,trivial,trivial⟩ ?_
 refine wwn ?_
 refine qAa rfl (fun c1=>?_) (fun c1=>?_)
 ·exact absurd c1 (by rw [hll];simp;omega)
 refine wwn ?_
 refine qAe (qAr (H':=[.row (qAk L a1),.dead,.row [.sl 5 [] .full,.sl 2 [] .full],.row [.bm 4 (qAc root).length,.d (.sl 2 (qAf apps))],.buf 5 (qAc root).length (qAu (qAc root)),.dead]) rfl rfl hN1 [0] (by decide) rfl rfl rfl rfl rfl rfl rfl) rfl ?_
 refine wwn ?_
 refine qAe (qAr (H':=[.row (qAk L a2),.dead,.row [.sl 5 [] .full,.sl 2 [] .full],.row [.bm 4 (qAc root).length,.d (.sl 2 (qAf apps))],.buf 5 (qAc root).length (qAu (qAc root)),.dead]) rfl rfl hN2 [0] (by decide) rfl rfl rfl rfl rfl rfl rfl) rfl ?_
 refine wwn ?_
 refine qAa rfl (fun q=>absurd q (by decide)) (fun q=>?_)
 refine wwn ?_
 refine qAa rfl (fun q=>absurd q (by decide)) (fun q=>?_)
 refine wwn ?_
 refine qAa rfl (fun q=>absurd q (by decide)) (fun q=>?_)
 refine wwn ?_
 refine qAa rfl (fun q=>?_) (fun q=>absurd q (by decide))
 have hset:=flatAV_set (j:=3) (.int .i64 (IntKind.i64.wrap (x 7-1))) (by omega) (encFils_size root) hge
 have hgs:(root.set k ⟨id,sho,con,IntKind.i64.wrap (x 7-1),rgt⟩)[k]?=some ⟨id,sho,con,IntKind.i64.wrap (x 7-1),rgt⟩:=by rw [List.getElem?_set,if_pos rfl,if_pos hkl]
 have hset2:=flatAV_set (j:=4) (.int .i64 (IntKind.i64.wrap (y 18-1))) (by omega) (encFils_size (root.set k ⟨id,sho,con,IntKind.i64.wrap (x 7-1),rgt⟩)) (encFils_get hgs)
 refine qAy (fun i=>bif Nat.beq i 1 then [3] else bif Nat.beq i 11 then [4] else bif Nat.beq i 4 then [0] else bif Nat.beq i 7 then [0] else bif Nat.beq i 12 then [4] else []) (fun i=>bif Nat.beq i 4 then [0] else bif Nat.beq i 7 then [0] else bif Nat.beq i 12 then [4] else []) mixed (by kernel_rfl) ?_
 refine wwg ?_
 refine qAm (v:=.I (x 7)) (os:=[.row (qAk L a3)]) (fun kk hk1 hk2=>qAr rfl rfl (hN3 7 (by omega) (by omega)) [0] (by decide) (by show [kk[0]?]=[some _];rw [hk2 0 List.mem_cons_self];rfl) rfl rfl rfl rfl rfl rfl) rfl ?_
 refine wwg ?_
 refine qAm (v:=.I (y 18)) (os:=[.row (qAk L a4)]) (fun kk hk1 hk2=>qAr rfl rfl (hN4 18 (by omega) (by omega)) [0] (by decide) (by show [kk[0]?]=[some _];rw [hk2 0 List.mem_cons_self];rfl) rfl rfl rfl rfl rfl rfl) rfl ?_
 refine wwg ?_
 generalize IntKind.i64.wrap (x 7-1)=u at hset hset2 ⊢
 generalize IntKind.i64.wrap (y 18-1)=v at hset2 ⊢
 refine qEd (bufAddr_ok (sz:=5) hT rfl rfl rfl rfl (by omega)) rfl rfl ?_
 refine qAm (os:=[]) (fun kk hk1 hk2=>fieldAddrB_ok hT rfl rfl ((hk2 4 List.mem_cons_self).trans rfl) rfl rfl) rfl ?_
 refine qAm (v:=.any) (os:=[.buf 5 (qAc root).length (qBz (qAu (qAc root)) (k*5+3) [.I u,.I v])]) (fun kk hk1 hk2=>qTa (cs:=[.I u,.I v]) hT rfl rfl rfl rfl ((hk2 4 List.mem_cons_self).trans rfl) rfl rfl (Nat.zero_lt_succ 1) (by show (k:Int).toNat*5+3+2≤(qAu (qAc root)).length;rw [hfl,Int.toNat_natCast];omega) rfl) rfl ?_
 refine wwg ?_
 refine qDf 3 0 4 (qAc (root.set k ⟨id,sho,con,u,v⟩)) rfl rfl rfl (by rw [encFils_length,List.length_set,hll]) (qCg (encFils_size _) (by show ((qAu (qAc root)).set (k*5+3) (.I u)).set (k*5+4) (.I v)=_;rw [hset,show (qAc root).set k ((qCs ⟨id,sho,con,lev,rgt⟩).set 3 (.int .i64 u))=qAc (root.set k ⟨id,sho,con,u,rgt⟩) by rw [← encFils_set];rfl,hset2,show (qCs ⟨id,sho,con,u,rgt⟩).set 4 (.int .i64 v)=qCs ⟨id,sho,con,u,v⟩ from rfl,encFils_set,List.set_set])) rfl ?_
 refine ww ?_
 exact rq ⟨((root.set k ⟨id,sho,con,u,v⟩,apps),a4),⟨hb.set k _ hcon,by first | exact g3 | exact g4 | exact g2⟩,rfl,rfl⟩ rfl (AV.le.agg ⟨.dat,.refl _,trivial⟩)
theorem qQx (L:List Int) (hL:L.length≤1000000) (a:Nat) (ha:a≤L.length) (root:List Fil) (apps:List Apk) (hb:FsS root apps) (h0:root≠[]) (hv:nxV L (nxA L a) 9=4) :
  Spec Tryz.prog 41 [.ptr 0 0,.agg [.d (.sl 5 (qAc root)),.d (.sl 2 (qAf apps))]] [.row (qAk L a)] (fun r h'=>∃ x:(List Fil×List Apk)×Nat,OddFP L x∧r=.agg [.d (.sl 5 (qAc x.1.1)),.d (.sl 2 (qAf x.1.2))]∧h'=[.row (qAk L x.2)]):=by
 have hll:=encFils_length root
 have hal:=encApks_length apps
 have hrl:=hb.root.1
 have hpl:=hb.apps.1
 obtain ⟨m',a1,e1,e2,g1,hm',hN⟩:=qAo L hL a ha
 rw [e2] at hv
 have hN2:=qAq L hL a1 g1 9 (by omega) (by omega)
 rw [hv] at hN2
 have g2:=nxA_le g1
 generalize nxA L a1=a2 at hN2 g2
 obtain ⟨x,a3,e5,e6,g3,hx,hN3⟩:=qAo L hL a2 g2
 obtain ⟨y,a4,e7,e8,g4,hy,hN4⟩:=qAo L hL a3 g3
 have hO:=qDc L hL a2 g2 2 (by omega) (by omega)
 rw [e5,e6] at hO
 clear e1 e2 e5 e6 e7 e8 hv
 have hpos:0 < root.length:=List.length_pos_iff.2 h0
 have hN1:=hN (root.length:Int) (by omega) (by omega)
 have hv1:=hm' (root.length:Int) (by omega)
 obtain ⟨k,hk⟩:∃ k:Nat,m' (root.length:Int)=(k:Int):=⟨(m' (root.length:Int)).toNat,by omega⟩
 rw [hk] at hN1 hv1
 have hkl:k < root.length:=by omega
 obtain ⟨⟨id,sho,con,lev,rgt⟩,hd⟩:∃ d,root[k]?=some d:=⟨root[k],by simp [hkl]⟩
 have hcon:con.length≤5000:=hb.root.2 _ (List.mem_of_getElem? hd)
 clear hm' hN
 have hN1:Spec Tryz.prog 30 [.ptr 0 0,.I ((qAc root).length:Int)] [.row (qAk L a)] (fun r h'=>r=.I (k:Int)∧h'=[.row (qAk L a1)]):=by rw [hll];exact hN1
 have hfl:=encFils_flat root
 have hge:=encFils_get hd
 refine qAb hT Tryz.func41 rfl rfl rfl rfl ?_;intro E hE
 refine qAi (qAi (qAi (qAi (qAi ?_))))
 refine qAl (qAh ?_)
 refine qAe (boxAt_ok (i0:=1) (cs:=[.d (.sl 5 (qAc root)),.d (.sl 2 (qAf apps))]) rfl rfl rfl) rfl ?_
 refine qAe (allocAt_ok (i0:=2) (i:=((T.find 47).getD ⟨.str,0,0,[]⟩)) hT rfl rfl rfl) rfl ?_
 refine wws ?_
 refine qAl (qAy (fun i=>bif Nat.beq i 1 then [1] else bif Nat.beq i 4 then [1] else bif Nat.beq i 7 then [3] else bif Nat.beq i 8 then [3] else bif Nat.beq i 2 then [4] else []) (fun i=>bif Nat.beq i 7 then [3] else bif Nat.beq i 8 then [3] else bif Nat.beq i 2 then [4] else []) mixed (by kernel_rfl) ?_)
 refine wwg ?_
 refine qAm (v:=.sl 5 (qAc root) (.right 4)) (os:=[.right 5 (([]:List (List Dat)).length+(qAc root).length)]) (fun kk hk1 hk2=>qBx (i:=4) (es:=[]) (es2:=qAc root) hT rfl rfl rfl (.inr ⟨rfl,rfl⟩) (by intro h;cases h) ((hk2 4 List.mem_cons_self).trans rfl) rfl (by show (0+(qAc root).length)*(56+1)≤_;omega)) rfl ?_
 refine wwg ?_
 refine qAm (v:=.d (.sl 2 (qAf apps))) (os:=[]) (fun kk hk1 hk2=>qBe (es:=[]) (es2:=qAf apps) hT rfl rfl rfl (.inr ⟨rfl,rfl⟩) rfl (by show (0+(qAf apps).length)*(48+1)≤_;omega)) rfl ?_
 refine wwg ?_
 refine qAm (v:=.ptr 3 0) (os:=[.row ((T.find 47).getD ⟨.str,0,0,[]⟩).zero]) (fun kk hk1 hk2=>allocAt_ok (i0:=3) (i:=((T.find 47).getD ⟨.str,0,0,[]⟩)) hT rfl rfl ((hk2 3 List.mem_cons_self).trans rfl)) rfl ?_
 refine wwg ?_
 refine qAs (l:=[(0,.ptr 0 0),(4,.ptr 2 0),(5,.ptr 3 0)]) (h':=[.row (qAk L a),.dead,.row [.sl 5 [] .full,.sl 2 [] .full],.row [.sl 5 (qAc root) (.right 4),.d (.sl 2 (qAf apps))],.right 5 (qAc root).length,.dead]) yf ⟨ObLe.refl _,trivial,ObLe.refl _,ObLe.refl _,⟨rfl,Nat.zero_add _⟩,trivial,trivial⟩ ?_
 refine wwn ?_
 refine qAa rfl (fun c1=>?_) (fun c1=>?_)
 ·exact absurd c1 (by rw [hll];simp;omega)
 refine wwn ?_
 refine qAe (qAr (H':=[.row (qAk L a1),.dead,.row [.sl 5 [] .full,.sl 2 [] .full],.row [.sl 5 (qAc root) (.right 4),.d (.sl 2 (qAf apps))],.right 5 (qAc root).length,.dead]) rfl rfl hN1 [0] (by decide) rfl rfl rfl rfl rfl rfl rfl) rfl ?_
 refine wwn ?_
 refine qAe (qAr (H':=[.row (qAk L a2),.dead,.row [.sl 5 [] .full,.sl 2 [] .full],.row [.sl 5 (qAc root) (.right 4),.d (.sl 2 (qAf apps))],.right 5 (qAc root).length,.dead]) rfl rfl hN2 [0] (by decide) rfl rfl rfl rfl rfl rfl rfl) rfl ?_
 refine wwn ?_
 refine qAa rfl (fun q=>absurd q (by decide)) (fun q=>?_)
 refine wwn ?_
 refine qAa rfl (fun q=>absurd q (by decide)) (fun q=>?_)
 refine wwn ?_
 refine qAa rfl (fun q=>absurd q (by decide)) (fun q=>?_)
 refine wwn ?_
 refine qAa rfl (fun q=>absurd q (by decide)) (fun q=>?_)
 refine wwn ?_
 refine qAa rfl (fun q=>?_) (fun q=>absurd q (by decide))
 refine qAy (fun i=>bif Nat.beq i 1 then [3] else bif Nat.beq i 3 then [3] else bif Nat.beq i 8 then [4] else bif Nat.beq i 10 then [3] else []) (fun i=>bif Nat.beq i 8 then [4] else bif Nat.beq i 10 then [3] else []) mixed (by kernel_rfl) ?_
 refine wwg ?_
 refine qEd (indexAddr_ok hT rfl rfl rfl rfl (by omega) (by rw [Int.toNat_natCast];exact hge)) rfl rfl ?_
 refine wwg ?_
 refine qAm (os:=[]) (fun kk hk1 hk2=>buildSl_ok hT rfl rfl) rfl ?_
 refine qAm (v:=.sl 5 (qAc (root++[⟨id,sho,con,lev,rgt⟩])) (.right 4)) (os:=[.right 5 (qAc (root++[⟨id,sho,con,lev,rgt⟩])).length]) (fun kk hk1 hk2=>by rw [encFils_app];exact qAn (i:=4) (es2:=[qCs ⟨id,sho,con,lev,rgt⟩]) hT rfl rfl rfl rfl ((hk2 4 List.mem_cons_self).trans rfl) rfl (by show ((qAc root).length+1)*(56+1)≤_;omega)) rfl ?_
 refine wwg ?_
 refine ww ?_
 exact rq ⟨((root++[⟨id,sho,con,lev,rgt⟩],apps),a2),⟨hb.appR _ (by simp) (fun f hf=>by rw [List.mem_singleton.1 hf];exact hcon),by first | exact g3 | exact g4 | exact g2⟩,rfl,rfl⟩ rfl (AV.le.agg ⟨.dat,.refl _,trivial⟩)
theorem qQw (L:List Int) (hL:L.length≤1000000) (a:Nat) (ha:a≤L.length) (root:List Fil) (apps:List Apk) (hb:FsS root apps) (h0:root≠[]) (hv:nxV L (nxA L a) 9=5) :
  Spec Tryz.prog 41 [.ptr 0 0,.agg [.d (.sl 5 (qAc root)),.d (.sl 2 (qAf apps))]] [.row (qAk L a)] (fun r h'=>∃ x:(List Fil×List Apk)×Nat,OddFP L x∧r=.agg [.d (.sl 5 (qAc x.1.1)),.d (.sl 2 (qAf x.1.2))]∧h'=[.row (qAk L x.2)]):=by
 have hll:=encFils_length root
 have hal:=encApks_length apps
 have hrl:=hb.root.1
 have hpl:=hb.apps.1
 obtain ⟨m',a1,e1,e2,g1,hm',hN⟩:=qAo L hL a ha
 rw [e2] at hv
 have hN2:=qAq L hL a1 g1 9 (by omega) (by omega)
 rw [hv] at hN2
 have g2:=nxA_le g1
 generalize nxA L a1=a2 at hN2 g2
 obtain ⟨x,a3,e5,e6,g3,hx,hN3⟩:=qAo L hL a2 g2
 obtain ⟨y,a4,e7,e8,g4,hy,hN4⟩:=qAo L hL a3 g3
 have hO:=qDc L hL a2 g2 2 (by omega) (by omega)
 rw [e5,e6] at hO
 clear e1 e2 e5 e6 e7 e8 hv
 have hpos:0 < root.length:=List.length_pos_iff.2 h0
 have hN1:=hN (root.length:Int) (by omega) (by omega)
 have hv1:=hm' (root.length:Int) (by omega)
 obtain ⟨k,hk⟩:∃ k:Nat,m' (root.length:Int)=(k:Int):=⟨(m' (root.length:Int)).toNat,by omega⟩
 rw [hk] at hN1 hv1
 have hkl:k < root.length:=by omega
 obtain ⟨⟨id,sho,con,lev,rgt⟩,hd⟩:∃ d,root[k]?=some d:=⟨root[k],by simp [hkl]⟩
 have hcon:con.length≤5000:=hb.root.2 _ (List.mem_of_getElem? hd)
 clear hm' hN
 have hN1:Spec Tryz.prog 30 [.ptr 0 0,.I ((qAc root).length:Int)] [.row (qAk L a)] (fun r h'=>r=.I (k:Int)∧h'=[.row (qAk L a1)]):=by rw [hll];exact hN1
 have hfl:=encFils_flat root
 have hge:=encFils_get hd
 refine qAb hT Tryz.func41 rfl rfl rfl rfl ?_;intro E hE
 refine qAi (qAi (qAi (qAi (qAi ?_))))
 refine qAl (qAh ?_)
 refine qAe (boxAt_ok (i0:=1) (cs:=[.d (.sl 5 (qAc root)),.d (.sl 2 (qAf apps))]) rfl rfl rfl) rfl ?_
 refine qAe (allocAt_ok (i0:=2) (i:=((T.find 47).getD ⟨.str,0,0,[]⟩)) hT rfl rfl rfl) rfl ?_
 refine wws ?_
 refine qAl (qAy (fun i=>bif Nat.beq i 1 then [1] else bif Nat.beq i 4 then [1] else bif Nat.beq i 7 then [3] else bif Nat.beq i 8 then [3] else bif Nat.beq i 5 then [5] else []) (fun i=>bif Nat.beq i 7 then [3] else bif Nat.beq i 8 then [3] else bif Nat.beq i 5 then [5] else []) mixed (by kernel_rfl) ?_)
 refine wwg ?_
 refine qAm (v:=.d (.sl 5 (qAc root))) (os:=[]) (fun kk hk1 hk2=>qBe (es:=[]) (es2:=qAc root) hT rfl rfl rfl (.inr ⟨rfl,rfl⟩) rfl (by show (0+(qAc root).length)*(56+1)≤_;omega)) rfl ?_
 refine wwg ?_
 refine qAm (v:=.sl 2 (qAf apps) (.right 5)) (os:=[.right 2 (([]:List (List Dat)).length+(qAf apps).length)]) (fun kk hk1 hk2=>qBx (i:=5) (es:=[]) (es2:=qAf apps) hT rfl rfl rfl (.inr ⟨rfl,rfl⟩) (by intro h;cases h) ((hk2 5 List.mem_cons_self).trans rfl) rfl (by show (0+(qAf apps).length)*(48+1)≤_;omega)) rfl ?_
 refine wwg ?_
 refine qAm (v:=.ptr 3 0) (os:=[.row ((T.find 47).getD ⟨.str,0,0,[]⟩).zero]) (fun kk hk1 hk2=>allocAt_ok (i0:=3) (i:=((T.find 47).getD ⟨.str,0,0,[]⟩)) hT rfl rfl ((hk2 3 List.mem_cons_self).trans rfl)) rfl ?_
 refine wwg ?_
 refine qAs (l:=[(0,.ptr 0 0),(4,.ptr 2 0),(5,.ptr 3 0)]) (h':=[.row (qAk L a),.dead,.row [.sl 5 [] .full,.sl 2 [] .full],.row [.d (.sl 5 (qAc root)),.sl 2 (qAf apps) (.right 5)],.dead,.right 2 (qAf apps).length]) yf ⟨ObLe.refl _,trivial,ObLe.refl _,ObLe.refl _,trivial,⟨rfl,Nat.zero_add _⟩,trivial⟩ ?_
 refine wwn ?_
 refine qAa rfl (fun c1=>?_) (fun c1=>?_)
 ·exact absurd c1 (by rw [hll];simp;omega)
 refine wwn ?_
 refine qAe (qAr (H':=[.row (qAk L a1),.dead,.row [.sl 5 [] .full,.sl 2 [] .full],.row [.d (.sl 5 (qAc root)),.sl 2 (qAf apps) (.right 5)],.dead,.right 2 (qAf apps).length]) rfl rfl hN1 [0] (by decide) rfl rfl rfl rfl rfl rfl rfl) rfl ?_
 refine wwn ?_
 refine qAe (qAr (H':=[.row (qAk L a2),.dead,.row [.sl 5 [] .full,.sl 2 [] .full],.row [.d (.sl 5 (qAc root)),.sl 2 (qAf apps) (.right 5)],.dead,.right 2 (qAf apps).length]) rfl rfl hN2 [0] (by decide) rfl rfl rfl rfl rfl rfl rfl) rfl ?_
 refine wwn ?_
 refine qAa rfl (fun q=>absurd q (by decide)) (fun q=>?_)
 refine wwn ?_
 refine qAa rfl (fun q=>absurd q (by decide)) (fun q=>?_)
 refine wwn ?_
 refine qAa rfl (fun q=>absurd q (by decide)) (fun q=>?_)
 refine wwn ?_
 refine qAa rfl (fun q=>absurd q (by decide)) (fun q=>?_)
 refine wwn ?_
 refine qAa rfl (fun q=>absurd q (by decide)) (fun q=>?_)
 refine wwn ?_
 refine qAa rfl (fun q=>?_) (fun q=>absurd q (by decide))
 have hx1:=hx 3 (by omega)
 have hat:=pkI_at (T:=[0,16,17]) hx1
 have hpm:=pkI_mem (T:=[0,16,17]) hx1
 obtain ⟨n,hn1,hn⟩:∃ n:Nat,pkI [0,16,17] (x 3)=(n:Int)∧n≤17:=⟨(pkI [0,16,17] (x 3)).toNat,by simp at hpm;omega,by simp at hpm;omega⟩
 rw [hn1] at hat
 refine qAy (fun i=>bif Nat.beq i 1 then [3] else bif Nat.beq i 4 then [0] else bif Nat.beq i 10 then [5] else bif Nat.beq i 12 then [3] else []) (fun i=>bif Nat.beq i 4 then [0] else bif Nat.beq i 10 then [5] else bif Nat.beq i 12 then [3] else []) mixed (by kernel_rfl) ?_
 refine wwg ?_
 refine qAm (os:=[]) (fun kk hk1 hk2=>buildSl_ok hT rfl rfl) rfl ?_
 refine wwg ?_
 refine qAm (v:=.I (x 3)) (os:=[.row (qAk L a3)]) (fun kk hk1 hk2=>qAr rfl rfl (hN3 3 (by omega) (by omega)) [0] (by decide) (by show [kk[0]?]=[some _];rw [hk2 0 List.mem_cons_self];rfl) rfl rfl rfl rfl rfl rfl) rfl ?_
 refine qEd (indexAddr_ok hT rfl rfl rfl rfl hx1.1 hat) rfl rfl ?_
 refine wwg ?_
 refine qAm (v:=.d (.sl 1 (qAg (List.replicate n 0)))) (os:=[]) (fun kk hk1 hk2=>by rw [← encB_zeros];exact makeDat_ok (n:=n) (z:=.int .u8 0) hT rfl rfl rfl rfl (by show 1*n≤_;omega) (by omega)) rfl ?_
 refine wwg ?_
 refine qAm (os:=[]) (fun kk hk1 hk2=>buildSl_ok hT rfl rfl) rfl ?_
 refine qAm (v:=.sl 2 (qAf (apps++[⟨List.replicate n 0,[]⟩])) (.right 5)) (os:=[.right 2 (qAf (apps++[⟨List.replicate n 0,[]⟩])).length]) (fun kk hk1 hk2=>by rw [encApks_app];exact qAn (i:=5) (es2:=[qEx ⟨List.replicate n 0,[]⟩]) hT rfl rfl rfl rfl ((hk2 5 List.mem_cons_self).trans rfl) rfl (by show ((qAf apps).length+1)*(48+1)≤_;omega)) rfl ?_
 refine wwg ?_
 refine ww ?_
 exact rq ⟨((root,apps++[⟨List.replicate n 0,[]⟩]),a3),⟨hb.appA _ (by simp) (fun f hf=>by rw [List.mem_singleton.1 hf];exact ⟨by simp only [List.length_replicate];omega,rfl⟩),by first | exact g3 | exact g4 | exact g2⟩,rfl,rfl⟩ rfl (AV.le.agg ⟨.refl _,.dat,trivial⟩)
theorem qQv (L:List Int) (hL:L.length≤1000000) (a:Nat) (ha:a≤L.length) (root:List Fil) (apps:List Apk) (hb:FsS root apps) (h0:root≠[]) (hv:nxV L (nxA L a) 9=6) :
  Spec Tryz.prog 41 [.ptr 0 0,.agg [.d (.sl 5 (qAc root)),.d (.sl 2 (qAf apps))]] [.row (qAk L a)] (fun r h'=>∃ x:(List Fil×List Apk)×Nat,OddFP L x∧r=.agg [.d (.sl 5 (qAc x.1.1)),.d (.sl 2 (qAf x.1.2))]∧h'=[.row (qAk L x.2)]):=by
 have hll:=encFils_length root
 have hal:=encApks_length apps
 have hrl:=hb.root.1
 have hpl:=hb.apps.1
 obtain ⟨m',a1,e1,e2,g1,hm',hN⟩:=qAo L hL a ha
 rw [e2] at hv
 have hN2:=qAq L hL a1 g1 9 (by omega) (by omega)
 rw [hv] at hN2
 have g2:=nxA_le g1
 generalize nxA L a1=a2 at hN2 g2
 obtain ⟨x,a3,e5,e6,g3,hx,hN3⟩:=qAo L hL a2 g2
 obtain ⟨y,a4,e7,e8,g4,hy,hN4⟩:=qAo L hL a3 g3
 have hO:=qDc L hL a2 g2 2 (by omega) (by omega)
 rw [e5,e6] at hO
 clear e1 e2 e5 e6 e7 e8 hv
 have hpos:0 < root.length:=List.length_pos_iff.2 h0
 have hN1:=hN (root.length:Int) (by omega) (by omega)
 have hv1:=hm' (root.length:Int) (by omega)
 obtain ⟨k,hk⟩:∃ k:Nat,m' (root.length:Int)=(k:Int):=⟨(m' (root.length:Int)).toNat,by omega⟩
 rw [hk] at hN1 hv1
 have hkl:k < root.length:=by omega
 obtain ⟨⟨id,sho,con,lev,rgt⟩,hd⟩:∃ d,root[k]?=some d:=⟨root[k],by simp [hkl]⟩
 have hcon:con.length≤5000:=hb.root.2 _ (List.mem_of_getElem? hd)
 clear hm' hN
 have hN1:Spec Tryz.prog 30 [.ptr 0 0,.I ((qAc root).length:Int)] [.row (qAk L a)] (fun r h'=>r=.I (k:Int)∧h'=[.row (qAk L a1)]):=by rw [hll];exact hN1
 have hfl:=encFils_flat root
 have hge:=encFils_get hd
 refine qAb hT Tryz.func41 rfl rfl rfl rfl ?_;intro E hE
 refine qAi (qAi (qAi (qAi (qAi ?_))))
 refine qAl (qAh ?_)
 refine qAe (boxAt_ok (i0:=1) (cs:=[.d (.sl 5 (qAc root)),.d (.sl 2 (qAf apps))]) rfl rfl rfl) rfl ?_
 refine qAe (allocAt_ok (i0:=2) (i:=((T.find 47).getD ⟨.str,0,0,[]⟩)) hT rfl rfl rfl) rfl ?_
 refine wws ?_
 refine qAl (qAy (fun i=>bif Nat.beq i 1 then [1] else bif Nat.beq i 4 then [1] else bif Nat.beq i 7 then [3] else bif Nat.beq i 8 then [3] else bif Nat.beq i 5 then [5] else []) (fun i=>bif Nat.beq i 7 then [3] else bif Nat.beq i 8 then [3] else bif Nat.beq i 5 then [5] else []) mixed (by kernel_rfl) ?_)
 refine wwg ?_
 refine qAm (v:=.d (.sl 5 (qAc root))) (os:=[]) (fun kk hk1 hk2=>qBe (es:=[]) (es2:=qAc root) hT rfl rfl rfl (.inr ⟨rfl,rfl⟩) rfl (by show (0+(qAc root).length)*(56+1)≤_;omega)) rfl ?_
 refine wwg ?_
 refine qAm (v:=.sl 2 (qAf apps) (.right 5)) (os:=[.right 2 (([]:List (List Dat)).length+(qAf apps).length)]) (fun kk hk1 hk2=>qBx (i:=5) (es:=[]) (es2:=qAf apps) hT rfl rfl rfl (.inr ⟨rfl,rfl⟩) (by intro h;cases h) ((hk2 5 List.mem_cons_self).trans rfl) rfl (by show (0+(qAf apps).length)*(48+1)≤_;omega)) rfl ?_
 refine wwg ?_
 refine qAm (v:=.ptr 3 0) (os:=[.row ((T.find 47).getD ⟨.str,0,0,[]⟩).zero]) (fun kk hk1 hk2=>allocAt_ok (i0:=3) (i:=((T.find 47).getD ⟨.str,0,0,[]⟩)) hT rfl rfl ((hk2 3 List.mem_cons_self).trans rfl)) rfl ?_
 refine wwg ?_
 refine qAs (l:=[(0,.ptr 0 0),(4,.ptr 2 0),(5,.ptr 3 0)]) (h':=[.row (qAk L a),.dead,.row [.sl 5 [] .full,.sl 2 [] .full],.row [.d (.sl 5 (qAc root)),.sl 2 (qAf apps) (.right 5)],.dead,.right 2 (qAf apps).length]) yf ⟨ObLe.refl _,trivial,ObLe.refl _,ObLe.refl _,trivial,⟨rfl,Nat.zero_add _⟩,trivial⟩ ?_
 refine wwn ?_
 refine qAa rfl (fun c1=>?_) (fun c1=>?_)
 ·exact absurd c1 (by rw [hll];simp;omega)
 refine wwn ?_
 refine qAe (qAr (H':=[.row (qAk L a1),.dead,.row [.sl 5 [] .full,.sl 2 [] .full],.row [.d (.sl 5 (qAc root)),.sl 2 (qAf apps) (.right 5)],.dead,.right 2 (qAf apps).length]) rfl rfl hN1 [0] (by decide) rfl rfl rfl rfl rfl rfl rfl) rfl ?_
 refine wwn ?_
 refine qAe (qAr (H':=[.row (qAk L a2),.dead,.row [.sl 5 [] .full,.sl 2 [] .full],.row [.d (.sl 5 (qAc root)),.sl 2 (qAf apps) (.right 5)],.dead,.right 2 (qAf apps).length]) rfl rfl hN2 [0] (by decide) rfl rfl rfl rfl rfl rfl rfl) rfl ?_
 refine wwn ?_
 refine qAa rfl (fun q=>absurd q (by decide)) (fun q=>?_)
 refine wwn ?_
 refine qAa rfl (fun q=>absurd q (by decide)) (fun q=>?_)
 refine wwn ?_
 refine qAa rfl (fun q=>absurd q (by decide)) (fun q=>?_)
 refine wwn ?_
 refine qAa rfl (fun q=>absurd q (by decide)) (fun q=>?_)
 refine wwn ?_
 refine qAa rfl (fun q=>absurd q (by decide)) (fun q=>?_)
 refine wwn ?_
 refine qAa rfl (fun q=>absurd q (by decide)) (fun q=>?_)
 refine wwn ?_
 refine qAa rfl (fun q=>?_) (fun q=>absurd q (by decide))
 have hnew:qAf (apps++[⟨[1],[]⟩,⟨[bOf (x 2)],[]⟩])=qAf apps++[[.sl 1 [[.int .u8 1]],.sl 5 []],[.sl 1 [[.int .u8 (IntKind.u8.wrap (x 2))]],.sl 5 []]]:=by rw [encApks_app];show _++[[Dat.sl 1 (qAg [1]),.sl 5 []],[.sl 1 (qAg [bOf (x 2)]),.sl 5 []]]=_;rw [bOf_u8];rfl
 refine qAy (fun i=>bif Nat.beq i 1 then [3] else bif Nat.beq i 5 then [0] else bif Nat.beq i 9 then [5] else bif Nat.beq i 11 then [3] else []) (fun i=>bif Nat.beq i 5 then [0] else bif Nat.beq i 9 then [5] else bif Nat.beq i 11 then [3] else []) mixed (by kernel_rfl) ?_
 refine wwg ?_
 refine qAm (os:=[]) (fun kk hk1 hk2=>buildSl_ok hT rfl rfl) rfl ?_
 refine wwg ?_
 refine qAm (v:=.d (.int .u8 (IntKind.u8.wrap (x 2)))) (os:=[.row (qAk L a3)]) (fun kk hk1 hk2=>qAr rfl rfl hO [0] (by decide) (by show [kk[0]?]=[some _];rw [hk2 0 List.mem_cons_self];rfl) rfl rfl rfl rfl rfl rfl) rfl ?_
 refine qAm (os:=[]) (fun kk hk1 hk2=>buildSl_ok hT rfl rfl) rfl ?_
 refine wwg ?_
 refine qAm (os:=[]) (fun kk hk1 hk2=>buildSl_ok hT rfl rfl) rfl ?_
 refine qAm (v:=.sl 2 (qAf (apps++[⟨[1],[]⟩,⟨[bOf (x 2)],[]⟩])) (.right 5)) (os:=[.right 2 (qAf (apps++[⟨[1],[]⟩,⟨[bOf (x 2)],[]⟩])).length]) (fun kk hk1 hk2=>by rw [hnew];exact qAn (i:=5) (es2:=[[.sl 1 [[.int .u8 1]],.sl 5 []],[.sl 1 [[.int .u8 (IntKind.u8.wrap (x 2))]],.sl 5 []]]) hT rfl rfl rfl rfl ((hk2 5 List.mem_cons_self).trans rfl) rfl (by show ((qAf apps).length+2)*(48+1)≤_;omega)) rfl ?_
 refine wwg ?_
 refine ww ?_
 exact rq ⟨((root,apps++[⟨[1],[]⟩,⟨[bOf (x 2)],[]⟩]),a3),⟨hb.appA _ (by simp) (fun f hf=>by simp only [List.mem_cons,List.not_mem_nil,or_false] at hf;rcases hf with rfl | rfl <;> exact ⟨by simp,rfl⟩),by first | exact g3 | exact g4 | exact g2⟩,rfl,rfl⟩ rfl (AV.le.agg ⟨.refl _,.dat,trivial⟩)
theorem qQu (L:List Int) (hL:L.length≤1000000) (a:Nat) (ha:a≤L.length) (root:List Fil) (apps:List Apk) (hb:FsS root apps) (h0:root≠[]) (hv:nxV L (nxA L a) 9=7) :
  Spec Tryz.prog 41 [.ptr 0 0,.agg [.d (.sl 5 (qAc root)),.d (.sl 2 (qAf apps))]] [.row (qAk L a)] (fun r h'=>∃ x:(List Fil×List Apk)×Nat,OddFP L x∧r=.agg [.d (.sl 5 (qAc x.1.1)),.d (.sl 2 (qAf x.1.2))]∧h'=[.row (qAk L x.2)]):=by
 have hll:=encFils_length root
 have hal:=encApks_length apps
 have hrl:=hb.root.1
 have hpl:=hb.apps.1
 obtain ⟨m',a1,e1,e2,g1,hm',hN⟩:=qAo L hL a ha
 rw [e2] at hv
 have hN2:=qAq L hL a1 g1 9 (by omega) (by omega)
 rw [hv] at hN2
 have g2:=nxA_le g1
 generalize nxA L a1=a2 at hN2 g2
 obtain ⟨x,a3,e5,e6,g3,hx,hN3⟩:=qAo L hL a2 g2
 obtain ⟨y,a4,e7,e8,g4,hy,hN4⟩:=qAo L hL a3 g3
 have hO:=qDc L hL a2 g2 2 (by omega) (by omega)
 rw [e5,e6] at hO
 clear e1 e2 e5 e6 e7 e8 hv
 have hpos:0 < root.length:=List.length_pos_iff.2 h0
 have hN1:=hN (root.length:Int) (by omega) (by omega)
 have hv1:=hm' (root.length:Int) (by omega)
 obtain ⟨k,hk⟩:∃ k:Nat,m' (root.length:Int)=(k:Int):=⟨(m' (root.length:Int)).toNat,by omega⟩
 rw [hk] at hN1 hv1
 have hkl:k < root.length:=by omega
 obtain ⟨⟨id,sho,con,lev,rgt⟩,hd⟩:∃ d,root[k]?=some d:=⟨root[k],by simp [hkl]⟩
 have hcon:con.length≤5000:=hb.root.2 _ (List.mem_of_getElem? hd)
 clear hm' hN
 have hN1:Spec Tryz.prog 30 [.ptr 0 0,.I ((qAc root).length:Int)] [.row (qAk L a)] (fun r h'=>r=.I (k:Int)∧h'=[.row (qAk L a1)]):=by rw [hll];exact hN1
 have hfl:=encFils_flat root
 have hge:=encFils_get hd
 refine qAb hT Tryz.func41 rfl rfl rfl rfl ?_;intro E hE
 refine qAi (qAi (qAi (qAi (qAi ?_))))
 refine qAl (qAh ?_)
 refine qAe (boxAt_ok (i0:=1) (cs:=[.d (.sl 5 (qAc root)),.d (.sl 2 (qAf apps))]) rfl rfl rfl) rfl ?_
 refine qAe (allocAt_ok (i0:=2) (i:=((T.find 47).getD ⟨.str,0,0,[]⟩)) hT rfl rfl rfl) rfl ?_
 refine wws ?_
 refine qAl (qAy (fun i=>bif Nat.beq i 1 then [1] else bif Nat.beq i 4 then [1] else bif Nat.beq i 7 then [3] else bif Nat.beq i 8 then [3] else bif Nat.beq i 2 then [4] else []) (fun i=>bif Nat.beq i 7 then [3] else bif Nat.beq i 8 then [3] else bif Nat.beq i 2 then [4] else []) mixed (by kernel_rfl) ?_)
 refine wwg ?_
 refine qAm (v:=.sl 5 (qAc root) (.right 4)) (os:=[.right 5 (([]:List (List Dat)).length+(qAc root).length)]) (fun kk hk1 hk2=>qBx (i:=4) (es:=[]) (es2:=qAc root) hT rfl rfl rfl (.inr ⟨rfl,rfl⟩) (by intro h;cases h) ((hk2 4 List.mem_cons_self).trans rfl) rfl (by show (0+(qAc root).length)*(56+1)≤_;omega)) rfl ?_
 refine wwg ?_
 refine qAm (v:=.d (.sl 2 (qAf apps))) (os:=[]) (fun kk hk1 hk2=>qBe (es:=[]) (es2:=qAf apps) hT rfl rfl rfl (.inr ⟨rfl,rfl⟩) rfl (by show (0+(qAf apps).length)*(48+1)≤_;omega)) rfl ?_
 refine wwg ?_
 refine qAm (v:=.ptr 3 0) (os:=[.row ((T.find 47).getD ⟨.str,0,0,[]⟩).zero]) (fun kk hk1 hk2=>allocAt_ok (i0:=3) (i:=((T.find 47).getD ⟨.str,0,0,[]⟩)) hT rfl rfl ((hk2 3 List.mem_cons_self).trans rfl)) rfl ?_
 refine wwg ?_
 refine qAs (l:=[(0,.ptr 0 0),(4,.ptr 2 0),(5,.ptr 3 0)]) (h':=[.row (qAk L a),.dead,.row [.sl 5 [] .full,.sl 2 [] .full],.row [.sl 5 (qAc root) (.right 4),.d (.sl 2 (qAf apps))],.right 5 (qAc root).length,.dead]) yf ⟨ObLe.refl _,trivial,ObLe.refl _,ObLe.refl _,⟨rfl,Nat.zero_add _⟩,trivial,trivial⟩ ?_
 refine wwn ?_
 refine qAa rfl (fun c1=>?_) (fun c1=>?_)
 ·exact absurd c1 (by rw [hll];simp;omega)
 refine wwn ?_
 refine qAe (qAr (H':=[.row (qAk L a1),.dead,.row [.sl 5 [] .full,.sl 2 [] .full],.row [.sl 5 (qAc root) (.right 4),.d (.sl 2 (qAf apps))],.right 5 (qAc root).length,.dead]) rfl rfl hN1 [0] (by decide) rfl rfl rfl rfl rfl rfl rfl) rfl ?_
 refine wwn ?_
 refine qAe (qAr (H':=[.row (qAk L a2),.dead,.row [.sl 5 [] .full,.sl 2 [] .full],.row [.sl 5 (qAc root) (.right 4),.d (.sl 2 (qAf apps))],.right 5 (qAc root).length,.dead]) rfl rfl hN2 [0] (by decide) rfl rfl rfl rfl rfl rfl rfl) rfl ?_
 refine wwn ?_
 refine qAa rfl (fun q=>absurd q (by decide)) (fun q=>?_)
 refine wwn ?_
 refine qAa rfl (fun q=>absurd q (by decide)) (fun q=>?_)
 refine wwn ?_
 refine qAa rfl (fun q=>absurd q (by decide)) (fun q=>?_)
 refine wwn ?_
 refine qAa rfl (fun q=>absurd q (by decide)) (fun q=>?_)
 refine wwn ?_
 refine qAa rfl (fun q=>absurd q (by decide)) (fun q=>?_)
 refine wwn ?_
 refine qAa rfl (fun q=>absurd q (by decide)) (fun q=>?_)
 refine wwn ?_
 refine qAa rfl (fun q=>absurd q (by decide)) (fun q=>?_)
 refine wwn ?_
 refine qAa rfl (fun q=>?_) (fun q=>absurd q (by decide))
 refine wwn ?_
 refine qAw (ι:=Nat×List Fil) (fun z=>[(0,.ptr 0 0),(4,.ptr 2 0),(5,.ptr 3 0),(7,.I (z.1:Int))]) (fun z=>[.row (qAk L a2),.dead,.row [.sl 5 [] .full,.sl 2 [] .full],.row [.sl 5 (qAc (root++z.2)) (.right 4),.d (.sl 2 (qAf apps))],.right 5 (qAc (root++z.2)).length,.dead])
  (fun z=>z.1≤24∧z.2.length=z.1∧∀ f,f∈z.2→f.con.length≤5000) (fun z=>24-z.1) (0,[]) ⟨by simp,rfl,fun f hf=>by cases hf⟩ yf (by rw [List.append_nil];exact HLe.refl _) ?_
 rintro ⟨i,m⟩ ⟨q1,q2,q3⟩
 simp only at q1 q2 q3 ⊢
 have hrm:=encFils_length (root++m)
 rw [List.length_append] at hrm
 refine wwn ?_
 refine qAa rfl (fun d1=>?_) (fun d1=>?_)
 ·have d1':i < 24:=by simp at d1;omega
  have hwr:IntKind.i64.wrap ((i:Int)+1)=((i+1:Nat):Int):=by rw [qAj (by omega)];simp
  refine wwn ?_
  refine qAe (qAn (i:=4) hT rfl rfl rfl rfl rfl rfl (by show ((qAc (root++m)).length+1)*(56+1)≤_;omega)) rfl ?_
  refine wwn ?_
  have hnew:qAc (root++(m++[⟨IntKind.i64.wrap (1000+(i:Int)),0,[],0,0⟩]))=qAc (root++m)++[[.int .i64 (IntKind.i64.wrap (1000+(i:Int))),.int .i64 0,.sl 1 [],.int .i64 0,.int .i64 0]]:=by rw [← List.append_assoc,encFils_app];rfl
  refine ⟨(i+1,m++[⟨IntKind.i64.wrap (1000+(i:Int)),0,[],0,0⟩]),⟨d1',by simp [q2],fun f hf=>?_⟩,by simp only;omega,⟨.refl _,.refl _,.refl _,.int hwr,trivial⟩,by rw [hnew];exact HLe.refl _⟩
  rcases List.mem_append.1 hf with hf | hf
  ·exact q3 f hf
  ·rw [List.mem_singleton.1 hf];simp
 refine wwe ?_
 refine ww ?_
 exact rq ⟨((root++m,apps),a2),⟨hb.appR _ (by omega) q3,by first | exact g3 | exact g4 | exact g2⟩,rfl,rfl⟩ rfl (AV.le.agg ⟨.dat,.refl _,trivial⟩)
theorem qQt (L:List Int) (hL:L.length≤1000000) (a:Nat) (ha:a≤L.length) (root:List Fil) (apps:List Apk) (hb:FsS root apps) (h0:root≠[]) (hv:nxV L (nxA L a) 9=8) :
  Spec Tryz.prog 41 [.ptr 0 0,.agg [.d (.sl 5 (qAc root)),.d (.sl 2 (qAf apps))]] [.row (qAk L a)] (fun r h'=>∃ x:(List Fil×List Apk)×Nat,OddFP L x∧r=.agg [.d (.sl 5 (qAc x.1.1)),.d (.sl 2 (qAf x.1.2))]∧h'=[.row (qAk L x.2)]):=by
 have hll:=encFils_length root
 have hal:=encApks_length apps
 have hrl:=hb.root.1
 have hpl:=hb.apps.1
 obtain ⟨m',a1,e1,e2,g1,hm',hN⟩:=qAo L hL a ha
 rw [e2] at hv
 have hN2:=qAq L hL a1 g1 9 (by omega) (by omega)
 rw [hv] at hN2
 have g2:=nxA_le g1
 generalize nxA L a1=a2 at hN2 g2
 obtain ⟨x,a3,e5,e6,g3,hx,hN3⟩:=qAo L hL a2 g2
 obtain ⟨y,a4,e7,e8,g4,hy,hN4⟩:=qAo L hL a3 g3
 have hO:=qDc L hL a2 g2 2 (by omega) (by omega)
 rw [e5,e6] at hO
 clear e1 e2 e5 e6 e7 e8 hv
 have hpos:0 < root.length:=List.length_pos_iff.2 h0
 have hN1:=hN (root.length:Int) (by omega) (by omega)
 have hv1:=hm' (root.length:Int) (by omega)
 obtain ⟨k,hk⟩:∃ k:Nat,m' (root.length:Int)=(k:Int):=⟨(m' (root.length:Int)).toNat,by omega⟩
 rw [hk] at hN1 hv1
 have hkl:k < root.length:=by omega
 obtain ⟨⟨id,sho,con,lev,rgt⟩,hd⟩:∃ d,root[k]?=some d:=⟨root[k],by simp [hkl]⟩
 have hcon:con.length≤5000:=hb.root.2 _ (List.mem_of_getElem? hd)
 clear hm' hN
 have hN1:Spec Tryz.prog 30 [.ptr 0 0,.I ((qAc root).length:Int)] [.row (qAk L a)] (fun r h'=>r=.I (k:Int)∧h'=[.row (qAk L a1)]):=by rw [hll];exact hN1
 have hfl:=encFils_flat root
 have hge:=encFils_get hd
 refine qAb hT Tryz.func41 rfl rfl rfl rfl ?_;intro E hE
 refine qAi (qAi (qAi (qAi (qAi ?_))))
 refine qAl (qAh ?_)
 refine qAe (boxAt_ok (i0:=1) (cs:=[.d (.sl 5 (qAc root)),.d (.sl 2 (qAf apps))]) rfl rfl rfl) rfl ?_
 refine qAe (allocAt_ok (i0:=2) (i:=((T.find 47).getD ⟨.str,0,0,[]⟩)) hT rfl rfl rfl) rfl ?_
 refine wws ?_
 refine qAl (qAy (fun i=>bif Nat.beq i 1 then [1] else bif Nat.beq i 4 then [1] else bif Nat.beq i 7 then [3] else bif Nat.beq i 8 then [3] else bif Nat.beq i 5 then [5] else []) (fun i=>bif Nat.beq i 7 then [3] else bif Nat.beq i 8 then [3] else bif Nat.beq i 5 then [5] else []) mixed (by kernel_rfl) ?_)
 refine wwg ?_
 refine qAm (v:=.d (.sl 5 (qAc root))) (os:=[]) (fun kk hk1 hk2=>qBe (es:=[]) (es2:=qAc root) hT rfl rfl rfl (.inr ⟨rfl,rfl⟩) rfl (by show (0+(qAc root).length)*(56+1)≤_;omega)) rfl ?_
 refine wwg ?_
 refine qAm (v:=.sl 2 (qAf apps) (.right 5)) (os:=[.right 2 (([]:List (List Dat)).length+(qAf apps).length)]) (fun kk hk1 hk2=>qBx (i:=5) (es:=[]) (es2:=qAf apps) hT rfl rfl rfl (.inr ⟨rfl,rfl⟩) (by intro h;cases h) ((hk2 5 List.mem_cons_self).trans rfl) rfl (by show (0+(qAf apps).length)*(48+1)≤_;omega)) rfl ?_
 refine wwg ?_
 refine qAm (v:=.ptr 3 0) (os:=[.row ((T.find 47).getD ⟨.str,0,0,[]⟩).zero]) (fun kk hk1 hk2=>allocAt_ok (i0:=3) (i:=((T.find 47).getD ⟨.str,0,0,[]⟩)) hT rfl rfl ((hk2 3 List.mem_cons_self).trans rfl)) rfl ?_
 refine wwg ?_
 refine qAs (l:=[(0,.ptr 0 0),(4,.ptr 2 0),(5,.ptr 3 0)]) (h':=[.row (qAk L a),.dead,.row [.sl 5 [] .full,.sl 2 [] .full],.row [.d (.sl 5 (qAc root)),.sl 2 (qAf apps) (.right 5)],.dead,.right 2 (qAf apps).length]) yf ⟨ObLe.refl _,trivial,ObLe.refl _,ObLe.refl _,trivial,⟨rfl,Nat.zero_add _⟩,trivial⟩ ?_
 refine wwn ?_
 refine qAa rfl (fun c1=>?_) (fun c1=>?_)
 ·exact absurd c1 (by rw [hll];simp;omega)
 refine wwn ?_
 refine qAe (qAr (H':=[.row (qAk L a1),.dead,.row [.sl 5 [] .full,.sl 2 [] .full],.row [.d (.sl 5 (qAc root)),.sl 2 (qAf apps) (.right 5)],.dead,.right 2 (qAf apps).length]) rfl rfl hN1 [0] (by decide) rfl rfl rfl rfl rfl rfl rfl) rfl ?_
 refine wwn ?_
 refine qAe (qAr (H':=[.row (qAk L a2),.dead,.row [.sl 5 [] .full,.sl 2 [] .full],.row [.d (.sl 5 (qAc root)),.sl 2 (qAf apps) (.right 5)],.dead,.right 2 (qAf apps).length]) rfl rfl hN2 [0] (by decide) rfl rfl rfl rfl rfl rfl rfl) rfl ?_
 refine wwn ?_
 refine qAa rfl (fun q=>absurd q (by decide)) (fun q=>?_)
 refine wwn ?_
 refine qAa rfl (fun q=>absurd q (by decide)) (fun q=>?_)
 refine wwn ?_
 refine qAa rfl (fun q=>absurd q (by decide)) (fun q=>?_)
 refine wwn ?_
 refine qAa rfl (fun q=>absurd q (by decide)) (fun q=>?_)
 refine wwn ?_
 refine qAa rfl (fun q=>absurd q (by decide)) (fun q=>?_)
 refine wwn ?_
 refine qAa rfl (fun q=>absurd q (by decide)) (fun q=>?_)
 refine wwn ?_
 refine qAa rfl (fun q=>absurd q (by decide)) (fun q=>?_)
 refine wwn ?_
 refine qAa rfl (fun q=>absurd q (by decide)) (fun q=>?_)
 refine wwn ?_
 refine wwn ?_
 refine qAw (ι:=Nat×List Apk) (fun z=>[(0,.ptr 0 0),(4,.ptr 2 0),(5,.ptr 3 0),(8,.I (z.1:Int))]) (fun z=>[.row (qAk L a2),.dead,.row [.sl 5 [] .full,.sl 2 [] .full],.row [.d (.sl 5 (qAc root)),.sl 2 (qAf (apps++z.2)) (.right 5)],.dead,.right 2 (qAf (apps++z.2)).length])
  (fun z=>z.1≤3∧z.2.length=z.1∧∀ a,a∈z.2→a.name.length≤100∧a.files=[]) (fun z=>3-z.1) (0,[]) ⟨by simp,rfl,fun f hf=>by cases hf⟩ yf (by rw [List.append_nil];exact HLe.refl _) ?_
 rintro ⟨i,m⟩ ⟨q1,q2,q3⟩
 simp only at q1 q2 q3 ⊢
 have hrm:=encApks_length (apps++m)
 rw [List.length_append] at hrm
 refine wwn ?_
 refine qAa rfl (fun d1=>?_) (fun d1=>?_)
 ·have d1':i < 3:=by simp at d1;omega
  have hwr:IntKind.i64.wrap ((i:Int)+1)=((i+1:Nat):Int):=by rw [qAj (by omega)];simp
  refine wwn ?_
  refine qAe (qAn (i:=5) hT rfl rfl rfl rfl rfl rfl (by show ((qAf (apps++m)).length+1)*(48+1)≤_;omega)) rfl ?_
  refine wwn ?_
  have hnew:qAf (apps++(m++[⟨[9,bOf (i:Int)],[]⟩]))=qAf (apps++m)++[[.sl 1 [[.int .u8 9],[.int .u8 (IntKind.u8.wrap (i:Int))]],.sl 5 []]]:=by rw [← List.append_assoc,encApks_app];show _++[[Dat.sl 1 ([Dat.int .u8 9]::qAg [bOf (i:Int)]),.sl 5 []]]=_;rw [bOf_u8]
  refine ⟨(i+1,m++[⟨[9,bOf (i:Int)],[]⟩]),⟨d1',by simp [q2],fun f hf=>?_⟩,by simp only;omega,⟨.refl _,.refl _,.refl _,.int hwr,trivial⟩,by rw [hnew];exact HLe.refl _⟩
  rcases List.mem_append.1 hf with hf | hf
  ·exact q3 f hf
  ·rw [List.mem_singleton.1 hf];exact ⟨by simp,rfl⟩
 refine wwe ?_
 refine ww ?_
 exact rq ⟨((root,apps++m),a2),⟨hb.appA _ (by omega) q3,by first | exact g3 | exact g4 | exact g2⟩,rfl,rfl⟩ rfl (AV.le.agg ⟨.refl _,.dat,trivial⟩)
theorem qLb (L:List Int) (hL:L.length≤1000000) (a:Nat) (ha:a≤L.length) (root:List Fil) (apps:List Apk) (hb:FsS root apps) (h0:root≠[]) :
  Spec Tryz.prog 41 [.ptr 0 0,.agg [.d (.sl 5 (qAc root)),.d (.sl 2 (qAf apps))]] [.row (qAk L a)] (fun r h'=>∃ x:(List Fil×List Apk)×Nat,OddFP L x∧r=.agg [.d (.sl 5 (qAc x.1.1)),.d (.sl 2 (qAf x.1.2))]∧h'=[.row (qAk L x.2)]):=by
 have hv:=nxV_range (L:=L) (a:=nxA L a) (n:=9) (by omega)
 rcases (by omega:nxV L (nxA L a) 9=0∨nxV L (nxA L a) 9=1∨nxV L (nxA L a) 9=2∨nxV L (nxA L a) 9=3∨nxV L (nxA L a) 9=4∨nxV L (nxA L a) 9=5∨nxV L (nxA L a) 9=6∨nxV L (nxA L a) 9=7∨nxV L (nxA L a) 9=8) with h | h | h | h | h | h | h | h | h
 ·exact qRb L hL a ha root apps hb h0 h
 ·exact qRa L hL a ha root apps hb h0 h
 ·exact qQz L hL a ha root apps hb h0 h
 ·exact qQy L hL a ha root apps hb h0 h
 ·exact qQx L hL a ha root apps hb h0 h
 ·exact qQw L hL a ha root apps hb h0 h
 ·exact qQv L hL a ha root apps hb h0 h
 ·exact qQu L hL a ha root apps hb h0 h
 ·exact qQt L hL a ha root apps hb h0 h
end Tdoc
