/- Common of the program. -/
import Derived.Test.YtkkfcpohiofinaaDoorE17
import Derived.Test.YtkkfcpohiofinaaDoorR8
set_option linter.unusedVariables false
set_option linter.unusedSimpArgs false
namespace Tdoc
open Go Go.Proofs

def cmnKids (l : List Int) : List Node := [.mk 24321 [48, 49, 48, 56] [], .mk 24374 [48, 52, 48, 48, 48, 48] [], .mk 92 (l.map tagByte) []]
theorem wrL_cons_length (t : Int) (v : List UInt8) (k r : List Node) : (wrL (.mk t v k :: r)).length ≤ 11 + v.length + (wrL k).length + (wrL r).length := by
  have h1 := wrL_one_le t v k
  have h2 := congrArg List.length (wrL_append [.mk t v k] r)
  rw [List.length_append] at h2
  have h3 : [Node.mk t v k] ++ r = .mk t v k :: r := rfl
  rw [h3] at h2
  omega
theorem tagTab_range : ∀ y, y ∈ tagTab → 0 ≤ y ∧ y ≤ 255 := by decide

set_option maxHeartbeats 4000000 in
set_option maxRecDepth 100000 in
theorem Common_spec (l : List Int) (hl : l.length ≤ 1000000) : Spec Tryd.prog 17 [.d (.sl 1 (encI l))] [] (fun r h' => r = .tup [.d (.sl 1 (encB (commonP l).1)), .d (.int .i64 (commonP l).2)] ∧ h' = []) := by
  have hlen := encI_length l
  have hasc := ascending_spec l (by omega)
  have hrg := ascX_range 0 l
  have hwrap := Wrap_spec 17 (by omega) (cmnKids l) (by simp [cmnKids]) ⟨⟨by omega, by simp, by simp, trivial⟩, ⟨by omega, by simp, by simp, trivial⟩, ⟨by omega, by simp; omega, by simp, trivial⟩, trivial⟩ (by simp [cmnKids, sizeL, sizeN]) (by
    have h1 := wrL_cons_length 24321 [48, 49, 48, 56] [] [.mk 24374 [48, 52, 48, 48, 48, 48] [], .mk 92 (l.map tagByte) []]
    have h2 := wrL_cons_length 24374 [48, 52, 48, 48, 48, 48] [] [.mk 92 (l.map tagByte) []]
    have h3 := wrL_one_le 92 (l.map tagByte) []
    simp only [wrL, List.length_cons, List.length_nil, List.length_map] at h1 h2 h3 ⊢
    simp only [cmnKids, wrL] at *
    omega)
  unfold commonP
  generalize ascX 0 l = e at hasc hrg
  refine Spec_of_body hT Tryd.func17 rfl rfl rfl rfl ?_
  intro E hE
  refine AW_room ?_
  repeat (first | refine AWd_step hT rfl rfl rfl (by first | exact True.intro | omega | exact sd) ?_ | refine AWk_step hT rfl rfl (by first | exact True.intro | omega | exact sd) ?_ | refine AWk_step0 hT rfl (by first | exact True.intro | omega | exact sd) ?_ | refine AWd_nil ?_ | refine AWk_nil ?_ | refine AWd_gstep hT rfl rfl rfl rfl rfl (by intro hg; first | exact ⟨True.intro, True.intro⟩ | exact sg hg) ?_ | refine AWk_gstep hT rfl rfl rfl rfl (by intro hg; first | exact ⟨True.intro, True.intro⟩ | exact sg hg) ?_ | refine AW_seq ?_ | refine AW_region ?_ | refine AW_draw mixed (by kernel_rfl) ?_ | refine AW_block ?_ | refine AW_skip ?_ | refine AW_exit ?_ | refine AW_ret ?_)
  refine AWk_op (callS0 rfl rfl hasc rfl rfl rfl) rfl ?_
  repeat (first | refine AWd_step hT rfl rfl rfl (by first | exact True.intro | omega | exact sd) ?_ | refine AWk_step hT rfl rfl (by first | exact True.intro | omega | exact sd) ?_ | refine AWk_step0 hT rfl (by first | exact True.intro | omega | exact sd) ?_ | refine AWd_nil ?_ | refine AWk_nil ?_ | refine AWd_gstep hT rfl rfl rfl rfl rfl (by intro hg; first | exact ⟨True.intro, True.intro⟩ | exact sg hg) ?_ | refine AWk_gstep hT rfl rfl rfl rfl (by intro hg; first | exact ⟨True.intro, True.intro⟩ | exact sg hg) ?_ | refine AW_seq ?_ | refine AW_region ?_ | refine AW_draw mixed (by kernel_rfl) ?_ | refine AW_block ?_ | refine AW_skip ?_ | refine AW_exit ?_ | refine AW_ret ?_)
  refine AW_condL rfl (fun h1 => ?_) (fun h1 => ?_)
  · have h1' : e ≠ 0 := by simpa using h1
    rw [if_pos h1']
    repeat (first | refine AWd_step hT rfl rfl rfl (by first | exact True.intro | omega | exact sd) ?_ | refine AWk_step hT rfl rfl (by first | exact True.intro | omega | exact sd) ?_ | refine AWk_step0 hT rfl (by first | exact True.intro | omega | exact sd) ?_ | refine AWd_nil ?_ | refine AWk_nil ?_ | refine AWd_gstep hT rfl rfl rfl rfl rfl (by intro hg; first | exact ⟨True.intro, True.intro⟩ | exact sg hg) ?_ | refine AWk_gstep hT rfl rfl rfl rfl (by intro hg; first | exact ⟨True.intro, True.intro⟩ | exact sg hg) ?_ | refine AW_seq ?_ | refine AW_region ?_ | refine AW_draw mixed (by kernel_rfl) ?_ | refine AW_block ?_ | refine AW_skip ?_ | refine AW_exit ?_ | refine AW_ret ?_)
    exact ret_exact (r := .tup [.d (.sl 1 (encB [])), .d (.int .i64 e)]) rfl (AV.le.tup ⟨AV.le.nils, .refl _, trivial⟩) rfl rfl rfl rfl ⟨rfl, rfl⟩
  · have h1' : ¬ e ≠ 0 := by simpa using h1
    have hrg := hrg (by simpa using h1)
    rw [if_neg h1']
    repeat (first | refine AW_exit ?_ | refine AW_skip ?_)
    refine AW_seq (AW_region ?_)
    repeat (first | refine AWd_step hT rfl rfl rfl (by first | exact True.intro | omega | exact sd) ?_ | refine AWk_step hT rfl rfl (by first | exact True.intro | omega | exact sd) ?_ | refine AWk_step0 hT rfl (by first | exact True.intro | omega | exact sd) ?_ | refine AWd_nil ?_ | refine AWk_nil ?_ | refine AWd_gstep hT rfl rfl rfl rfl rfl (by intro hg; first | exact ⟨True.intro, True.intro⟩ | exact sg hg) ?_ | refine AWk_gstep hT rfl rfl rfl rfl (by intro hg; first | exact ⟨True.intro, True.intro⟩ | exact sg hg) ?_)
    refine AW_acquireAt 5 1 0 (es := []) (.inr ⟨rfl, rfl⟩) rfl ?_
    repeat (first | refine AWd_step hT rfl rfl rfl (by first | exact True.intro | omega | exact sd) ?_ | refine AWk_step hT rfl rfl (by first | exact True.intro | omega | exact sd) ?_ | refine AWk_step0 hT rfl (by first | exact True.intro | omega | exact sd) ?_ | refine AWd_nil ?_ | refine AWk_nil ?_ | refine AWd_gstep hT rfl rfl rfl rfl rfl (by intro hg; first | exact ⟨True.intro, True.intro⟩ | exact sg hg) ?_ | refine AWk_gstep hT rfl rfl rfl rfl (by intro hg; first | exact ⟨True.intro, True.intro⟩ | exact sg hg) ?_ | refine AW_seq ?_ | refine AW_region ?_ | refine AW_draw mixed (by kernel_rfl) ?_ | refine AW_block ?_ | refine AW_skip ?_ | refine AW_exit ?_ | refine AW_ret ?_)
    refine AW_loopL (ι := Nat) (fun i => [(5, .sl 1 (encB ((l.take i).map tagByte)) (.right 0)), (13, .d (.sl 1 (encI l))), (14, .d (.int .i64 ((encI l).length : Int))), (15, .d (.int .i64 (i : Int)))]) (fun i => [.right 1 (encB ((l.take i).map tagByte)).length]) (fun i => i ≤ l.length) (fun i => l.length - i) 0 (by omega)
      ⟨.refl _, .refl _, .refl _, .refl _, trivial⟩ (HLe.refl _) ?_
    intro i hi
    have hwr : IntKind.i64.wrap ((i : Int) + 1) = ((i + 1 : Nat) : Int) := by rw [wrap_id (by omega)]; simp
    repeat (first | refine AWd_step hT rfl rfl rfl (by first | exact True.intro | omega | exact sd) ?_ | refine AWk_step hT rfl rfl (by first | exact True.intro | omega | exact sd) ?_ | refine AWk_step0 hT rfl (by first | exact True.intro | omega | exact sd) ?_ | refine AWd_nil ?_ | refine AWk_nil ?_ | refine AWd_gstep hT rfl rfl rfl rfl rfl (by intro hg; first | exact ⟨True.intro, True.intro⟩ | exact sg hg) ?_ | refine AWk_gstep hT rfl rfl rfl rfl (by intro hg; first | exact ⟨True.intro, True.intro⟩ | exact sg hg) ?_ | refine AW_seq ?_ | refine AW_region ?_ | refine AW_draw mixed (by kernel_rfl) ?_ | refine AW_block ?_ | refine AW_skip ?_ | refine AW_exit ?_ | refine AW_ret ?_)
    refine AW_condL rfl (fun h2 => ?_) (fun h2 => ?_)
    · have h2' : i < l.length := by rw [hlen] at h2; simpa using h2
      have hel := encI_at h2'
      have hr := hrg l[i] (List.getElem_mem h2')
      have hsucc : (l.take (i + 1)).map tagByte = (l.take i).map tagByte ++ [tagByte l[i]] := by rw [List.take_succ_eq_append_getElem h2', List.map_append]; rfl
      generalize l[i] = x at hel hr hsucc
      have hwx : IntKind.i64.wrap (x - 1) = x - 1 := wrap_id (by omega)
      obtain ⟨y, hy, hd, _⟩ := tagD_at (i := (x - 1).toNat) (by omega)
      have hyr := tagTab_range y (List.mem_of_getElem? hy)
      have htb : tagByte x = UInt8.ofNat y.toNat := by unfold tagByte; rw [hy]; rfl
      have hw8 : IntKind.u8.wrap y = ((UInt8.ofNat y.toNat).toNat : Int) := by rw [wrapu8 hyr, toNat_ofNat (by omega)]; omega
      have hol := encB_length ((l.take i).map tagByte)
      rw [List.length_map, List.length_take] at hol
      refine AW_skip ?_
      refine AW_seq (AW_block (AW_seq (AW_region ?_)))
      refine AWk_op (OpS_of_pure (indexAddr_ok hT rfl rfl rfl rfl (by omega) hel)) rfl ?_
      repeat (first | refine AWd_step hT rfl rfl rfl (by first | exact True.intro | omega | exact sd) ?_ | refine AWk_step hT rfl rfl (by first | exact True.intro | omega | exact sd) ?_ | refine AWk_step0 hT rfl (by first | exact True.intro | omega | exact sd) ?_ | refine AWd_nil ?_ | refine AWk_nil ?_ | refine AWd_gstep hT rfl rfl rfl rfl rfl (by intro hg; first | exact ⟨True.intro, True.intro⟩ | exact sg hg) ?_ | refine AWk_gstep hT rfl rfl rfl rfl (by intro hg; first | exact ⟨True.intro, True.intro⟩ | exact sg hg) ?_ | refine AW_seq ?_ | refine AW_region ?_ | refine AW_draw mixed (by kernel_rfl) ?_ | refine AW_block ?_ | refine AW_skip ?_ | refine AW_exit ?_ | refine AW_ret ?_)
      refine AWk_op (OpS_of_pure (arrAddr_ok (cs := tagD) hT rfl rfl rfl rfl (by rw [hwx]; omega))) rfl ?_
      rw [hwx, Nat.mul_one]
      generalize tagD.drop (x - 1).toNat = cs at hd
      match cs, hd with
      | d :: cs, hd =>
        simp only [List.getElem?_cons_zero, Option.some.injEq] at hd
        subst hd
        repeat (first | refine AWd_step hT rfl rfl rfl (by first | exact True.intro | omega | exact sd) ?_ | refine AWk_step hT rfl rfl (by first | exact True.intro | omega | exact sd) ?_ | refine AWk_step0 hT rfl (by first | exact True.intro | omega | exact sd) ?_ | refine AWd_nil ?_ | refine AWk_nil ?_ | refine AWd_gstep hT rfl rfl rfl rfl rfl (by intro hg; first | exact ⟨True.intro, True.intro⟩ | exact sg hg) ?_ | refine AWk_gstep hT rfl rfl rfl rfl (by intro hg; first | exact ⟨True.intro, True.intro⟩ | exact sg hg) ?_ | refine AW_seq ?_ | refine AW_region ?_ | refine AW_draw mixed (by kernel_rfl) ?_ | refine AW_block ?_ | refine AW_skip ?_ | refine AW_exit ?_ | refine AW_ret ?_)
        refine AWk_op (append_rightL (i := 0) hT rfl rfl rfl rfl rfl rfl (by show ((encB ((l.take i).map tagByte)).length + 1) * (1 + 1) ≤ _; omega)) rfl ?_
        repeat (first | refine AWd_step hT rfl rfl rfl (by first | exact True.intro | omega | exact sd) ?_ | refine AWk_step hT rfl rfl (by first | exact True.intro | omega | exact sd) ?_ | refine AWk_step0 hT rfl (by first | exact True.intro | omega | exact sd) ?_ | refine AWd_nil ?_ | refine AWk_nil ?_ | refine AWd_gstep hT rfl rfl rfl rfl rfl (by intro hg; first | exact ⟨True.intro, True.intro⟩ | exact sg hg) ?_ | refine AWk_gstep hT rfl rfl rfl rfl (by intro hg; first | exact ⟨True.intro, True.intro⟩ | exact sg hg) ?_ | refine AW_seq ?_ | refine AW_region ?_ | refine AW_draw mixed (by kernel_rfl) ?_ | refine AW_block ?_ | refine AW_skip ?_ | refine AW_exit ?_ | refine AW_ret ?_)
        have hres : encB ((l.take (i + 1)).map tagByte) = encB ((l.take i).map tagByte) ++ [[Dat.int .u8 (IntKind.u8.wrap y)]] := by rw [hsucc, encB_append, htb, hw8]; rfl
        exact ⟨i + 1, by omega, by omega, ⟨AV.le.eq (by rw [hres]; rfl), .refl _, .refl _, AV.le.eq (congrArg (fun z => AV.d (.int .i64 z)) hwr), trivial⟩, ⟨⟨rfl, by rw [hres]⟩, trivial⟩⟩
    · have hge : i = l.length := by rw [hlen] at h2; simp at h2; omega
      subst hge
      rw [List.take_length]
      repeat (first | refine AW_exit ?_ | refine AW_skip ?_)
      refine AW_seq (AW_regionAt [] _ rfl ?_)
      refine AWw_constBytes hT rfl rfl rfl rfl ?_
      refine AWw_one ?_
      repeat (first | refine AWd_step hT rfl rfl rfl (by first | exact True.intro | omega | exact sd) ?_ | refine AWk_step hT rfl rfl (by first | exact True.intro | omega | exact sd) ?_ | refine AWk_step0 hT rfl (by first | exact True.intro | omega | exact sd) ?_ | refine AWd_nil ?_ | refine AWk_nil ?_ | refine AWd_gstep hT rfl rfl rfl rfl rfl (by intro hg; first | exact ⟨True.intro, True.intro⟩ | exact sg hg) ?_ | refine AWk_gstep hT rfl rfl rfl rfl (by intro hg; first | exact ⟨True.intro, True.intro⟩ | exact sg hg) ?_)
      refine AWw_constBytes hT rfl rfl rfl rfl ?_
      refine AWw_of ?_
      repeat (first | refine AWd_step hT rfl rfl rfl (by first | exact True.intro | omega | exact sd) ?_ | refine AWk_step hT rfl rfl (by first | exact True.intro | omega | exact sd) ?_ | refine AWk_step0 hT rfl (by first | exact True.intro | omega | exact sd) ?_ | refine AWd_nil ?_ | refine AWk_nil ?_ | refine AWd_gstep hT rfl rfl rfl rfl rfl (by intro hg; first | exact ⟨True.intro, True.intro⟩ | exact sg hg) ?_ | refine AWk_gstep hT rfl rfl rfl rfl (by intro hg; first | exact ⟨True.intro, True.intro⟩ | exact sg hg) ?_)
      refine AWk_op (callS0L rfl rfl hwrap rfl (by exact ⟨.refl _, AV.le.trans AV.le.dat (AV.le.eq rfl), trivial⟩) rfl rfl) rfl ?_
      repeat (first | refine AWd_step hT rfl rfl rfl (by first | exact True.intro | omega | exact sd) ?_ | refine AWk_step hT rfl rfl (by first | exact True.intro | omega | exact sd) ?_ | refine AWk_step0 hT rfl (by first | exact True.intro | omega | exact sd) ?_ | refine AWd_nil ?_ | refine AWk_nil ?_ | refine AWd_gstep hT rfl rfl rfl rfl rfl (by intro hg; first | exact ⟨True.intro, True.intro⟩ | exact sg hg) ?_ | refine AWk_gstep hT rfl rfl rfl rfl (by intro hg; first | exact ⟨True.intro, True.intro⟩ | exact sg hg) ?_ | refine AW_seq ?_ | refine AW_region ?_ | refine AW_draw mixed (by kernel_rfl) ?_ | refine AW_block ?_ | refine AW_skip ?_ | refine AW_exit ?_ | refine AW_ret ?_)
      exact ret_exact rfl (.refl _) rfl rfl rfl rfl ⟨rfl, rfl⟩
end Tdoc
