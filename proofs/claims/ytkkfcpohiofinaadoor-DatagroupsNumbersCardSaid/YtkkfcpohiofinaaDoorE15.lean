/- The reader of objects: objects up to an end mark. -/
import Derived.Test.YtkkfcpohiofinaaDoorE14
set_option linter.unusedVariables false
set_option linter.unusedSimpArgs false
namespace Tdoc
open Go Go.Proofs

set_option maxHeartbeats 8000000 in
set_option maxRecDepth 100000 in
theorem kids_spec (b : List UInt8) (st : Bool) (f : Rd) (e d : Nat) (hb : b.length ≤ 1000000) (he : e ≤ b.length) (hd : d ≤ 100) (hf : RdOk f e) (H : ObjS b st f e d) (p c m : Nat) (hp : p ≤ e) (hc : c ≤ 256) (hm : e < p + m) :
    Spec Tryd.prog 68 [.ptr 0 0, .d (.int .i64 (e : Int)), .d (.int .i64 (d : Int))] [.row (rdr b st p c)]
      (fun r h' => r = .tup [.d (.sl 3 (encNs (kidsX b f e m p c []).1)), .d (.int .i64 (kidsX b f e m p c []).2.1)] ∧ h' = [.row (rdr b st (kidsX b f e m p c []).2.2.1 (kidsX b f e m p c []).2.2.2)]) := by
  refine Spec_of_body hT Tryd.func68 rfl rfl rfl rfl ?_
  intro E hE
  generalize hfin : kidsX b f e m p c [] = fin
  refine AW_room ?_
  refine AW_seq (AW_region ?_)
  repeat (first | refine AWd_step hT rfl rfl rfl (by first | exact True.intro | omega | exact sd) ?_ | refine AWk_step hT rfl rfl (by first | exact True.intro | omega | exact sd) ?_ | refine AWk_step0 hT rfl (by first | exact True.intro | omega | exact sd) ?_ | refine AWd_nil ?_ | refine AWk_nil ?_ | refine AWd_gstep hT rfl rfl rfl rfl rfl (by intro hg; first | exact ⟨True.intro, True.intro⟩ | exact sg hg) ?_ | refine AWk_gstep hT rfl rfl rfl rfl (by intro hg; first | exact ⟨True.intro, True.intro⟩ | exact sg hg) ?_)
  refine AW_seq (AW_region ?_)
  repeat (first | refine AWd_step hT rfl rfl rfl (by first | exact True.intro | omega | exact sd) ?_ | refine AWk_step hT rfl rfl (by first | exact True.intro | omega | exact sd) ?_ | refine AWk_step0 hT rfl (by first | exact True.intro | omega | exact sd) ?_ | refine AWd_nil ?_ | refine AWk_nil ?_ | refine AWd_gstep hT rfl rfl rfl rfl rfl (by intro hg; first | exact ⟨True.intro, True.intro⟩ | exact sg hg) ?_ | refine AWk_gstep hT rfl rfl rfl rfl (by intro hg; first | exact ⟨True.intro, True.intro⟩ | exact sg hg) ?_)
  refine AW_acquireAt 8 3 1 (es := []) (.inr ⟨rfl, rfl⟩) rfl ?_
  refine AW_block ?_
  refine AW_loopC (ι := Nat × Nat × Nat × List Node) (fun x => [(0, .ptr 0 0), (1, .d (.int .i64 (e : Int))), (2, .d (.int .i64 (d : Int))), (8, .sl 3 (encNs x.2.2.2) (.right 1))]) (fun x => [.row (rdr b st x.1 x.2.1), .right 3 (encNs x.2.2.2).length])
    (fun x => x.1 ≤ e ∧ x.2.1 ≤ 256 ∧ e < x.1 + x.2.2.1 ∧ x.2.2.2.length ≤ x.1 ∧ kidsX b f e x.2.2.1 x.1 x.2.1 x.2.2.2 = fin) (fun x => e - x.1) (p, c, m, []) ⟨hp, hc, hm, by simp, hfin⟩ ⟨.refl _, .refl _, .refl _, .refl _, trivial⟩ ⟨.refl _, .refl _, trivial⟩ ?_
  rintro ⟨p, c, m, out⟩ ⟨hp, hc, hm, ho, hg⟩
  simp only at hp hc hm ho hg ⊢
  have hol := encNs_length out
  obtain ⟨m, rfl⟩ : ∃ m', m = m' + 1 := ⟨m - 1, by omega⟩
  rw [kidsX] at hg
  have hwr : IntKind.i64.wrap ((p : Int) + 1) = ((p + 1 : Nat) : Int) := by rw [wrap_id (by omega)]; simp
  have hwr2 : IntKind.i64.wrap ((p : Int) + 2) = ((p + 2 : Nat) : Int) := by rw [wrap_id (by omega)]; simp
  have hx := byteAt_lt b p
  have hx1 := byteAt_lt b (p + 1)
  repeat (first | refine AWd_step hT rfl rfl rfl (by first | exact True.intro | omega | exact sd) ?_ | refine AWk_step hT rfl rfl (by first | exact True.intro | omega | exact sd) ?_ | refine AWk_step0 hT rfl (by first | exact True.intro | omega | exact sd) ?_ | refine AWd_nil ?_ | refine AWk_nil ?_ | refine AWd_gstep hT rfl rfl rfl rfl rfl (by intro hg; first | exact ⟨True.intro, True.intro⟩ | exact sg hg) ?_ | refine AWk_gstep hT rfl rfl rfl rfl (by intro hg; first | exact ⟨True.intro, True.intro⟩ | exact sg hg) ?_ | refine AW_seq ?_ | refine AW_region ?_ | refine AW_draw mixed (by kernel_rfl) ?_ | refine AW_block ?_ | refine AW_skip ?_ | refine AW_exit ?_ | refine AW_ret ?_)
  refine AWd_gop rfl rfl rfl rfl (fun hg => ⟨⟨hg, hg, True.intro⟩, OpS_of_pure (indexAddr_ok hT rfl rfl rfl rfl (by omega) (show (encB b)[((p : Int)).toNat]? = some [.int .u8 (byteAt b p : Int)] from encB_byte (by simp [gval] at hg; omega)))⟩) ?_
  repeat (first | refine AWd_step hT rfl rfl rfl (by first | exact True.intro | omega | exact sd) ?_ | refine AWk_step hT rfl rfl (by first | exact True.intro | omega | exact sd) ?_ | refine AWk_step0 hT rfl (by first | exact True.intro | omega | exact sd) ?_ | refine AWd_nil ?_ | refine AWk_nil ?_ | refine AWd_gstep hT rfl rfl rfl rfl rfl (by intro hg; first | exact ⟨True.intro, True.intro⟩ | exact sg hg) ?_ | refine AWk_gstep hT rfl rfl rfl rfl (by intro hg; first | exact ⟨True.intro, True.intro⟩ | exact sg hg) ?_ | refine AW_seq ?_ | refine AW_region ?_ | refine AW_draw mixed (by kernel_rfl) ?_ | refine AW_block ?_ | refine AW_skip ?_ | refine AW_exit ?_ | refine AW_ret ?_)
  refine AW_condL rfl (fun h1 => ?_) (fun h1 => ?_)
  · have h1' : e ≤ p ∨ (byteAt b p = 0 ∧ e ≤ p + 1) := by
      rw [hwr] at h1
      simp only [Bool.or_eq_true, Bool.and_eq_true, decide_eq_true_eq, beq_iff_eq] at h1
      omega
    rw [if_pos h1'] at hg
    subst hg
    repeat (first | refine AWd_step hT rfl rfl rfl (by first | exact True.intro | omega | exact sd) ?_ | refine AWk_step hT rfl rfl (by first | exact True.intro | omega | exact sd) ?_ | refine AWk_step0 hT rfl (by first | exact True.intro | omega | exact sd) ?_ | refine AWd_nil ?_ | refine AWk_nil ?_ | refine AWd_gstep hT rfl rfl rfl rfl rfl (by intro hg; first | exact ⟨True.intro, True.intro⟩ | exact sg hg) ?_ | refine AWk_gstep hT rfl rfl rfl rfl (by intro hg; first | exact ⟨True.intro, True.intro⟩ | exact sg hg) ?_ | refine AW_seq ?_ | refine AW_region ?_ | refine AW_draw mixed (by kernel_rfl) ?_ | refine AW_block ?_ | refine AW_skip ?_ | refine AW_exit ?_ | refine AW_ret ?_)
    exact ret_exact (r := .tup [.d (.sl 3 (encNs [])), .d (.int .i64 6)]) rfl (AV.le.tup ⟨AV.le.nils, .refl _, trivial⟩) rfl rfl rfl rfl ⟨rfl, rfl⟩
  · have h1' : ¬ (e ≤ p ∨ (byteAt b p = 0 ∧ e ≤ p + 1)) := by
      intro hh
      have : (decide ((p : Int) ≥ (e : Int)) || (byteAt b p : Int) == 0 && decide (IntKind.i64.wrap ((p : Int) + 1) ≥ (e : Int))) = true := by
        rw [hwr]
        simp only [Bool.or_eq_true, Bool.and_eq_true, decide_eq_true_eq, beq_iff_eq]
        omega
      exact absurd (this.symm.trans h1) (by simp)
    rw [if_neg h1'] at hg
    have hel : (encB b)[((p : Int)).toNat]? = some [.int .u8 (byteAt b p : Int)] := encB_byte (by omega)
    repeat (first | refine AWd_step hT rfl rfl rfl (by first | exact True.intro | omega | exact sd) ?_ | refine AWk_step hT rfl rfl (by first | exact True.intro | omega | exact sd) ?_ | refine AWk_step0 hT rfl (by first | exact True.intro | omega | exact sd) ?_ | refine AWd_nil ?_ | refine AWk_nil ?_ | refine AWd_gstep hT rfl rfl rfl rfl rfl (by intro hg; first | exact ⟨True.intro, True.intro⟩ | exact sg hg) ?_ | refine AWk_gstep hT rfl rfl rfl rfl (by intro hg; first | exact ⟨True.intro, True.intro⟩ | exact sg hg) ?_ | refine AW_seq ?_ | refine AW_region ?_ | refine AW_draw mixed (by kernel_rfl) ?_ | refine AW_block ?_ | refine AW_skip ?_ | refine AW_exit ?_ | refine AW_ret ?_)
    refine AWd_op (OpS_of_pure (indexAddr_ok hT rfl rfl rfl rfl (by omega) hel)) rfl rfl ?_
    repeat (first | refine AWd_step hT rfl rfl rfl (by first | exact True.intro | omega | exact sd) ?_ | refine AWk_step hT rfl rfl (by first | exact True.intro | omega | exact sd) ?_ | refine AWk_step0 hT rfl (by first | exact True.intro | omega | exact sd) ?_ | refine AWd_nil ?_ | refine AWk_nil ?_ | refine AWd_gstep hT rfl rfl rfl rfl rfl (by intro hg; first | exact ⟨True.intro, True.intro⟩ | exact sg hg) ?_ | refine AWk_gstep hT rfl rfl rfl rfl (by intro hg; first | exact ⟨True.intro, True.intro⟩ | exact sg hg) ?_ | refine AW_seq ?_ | refine AW_region ?_ | refine AW_draw mixed (by kernel_rfl) ?_ | refine AW_block ?_ | refine AW_skip ?_ | refine AW_exit ?_ | refine AW_ret ?_)
    refine AWd_gop rfl rfl rfl rfl (fun hg => ⟨⟨hg, hg, True.intro⟩, OpS_of_pure (indexAddr_ok hT rfl rfl rfl rfl (by rw [hwr]; omega) (show (encB b)[(IntKind.i64.wrap ((p : Int) + 1)).toNat]? = some [.int .u8 (byteAt b (p + 1) : Int)] from by rw [hwr]; exact encB_byte (by simp [gval] at hg; omega)))⟩) ?_
    repeat (first | refine AWd_step hT rfl rfl rfl (by first | exact True.intro | omega | exact sd) ?_ | refine AWk_step hT rfl rfl (by first | exact True.intro | omega | exact sd) ?_ | refine AWk_step0 hT rfl (by first | exact True.intro | omega | exact sd) ?_ | refine AWd_nil ?_ | refine AWk_nil ?_ | refine AWd_gstep hT rfl rfl rfl rfl rfl (by intro hg; first | exact ⟨True.intro, True.intro⟩ | exact sg hg) ?_ | refine AWk_gstep hT rfl rfl rfl rfl (by intro hg; first | exact ⟨True.intro, True.intro⟩ | exact sg hg) ?_ | refine AW_seq ?_ | refine AW_region ?_ | refine AW_draw mixed (by kernel_rfl) ?_ | refine AW_block ?_ | refine AW_skip ?_ | refine AW_exit ?_ | refine AW_ret ?_)
    refine AW_condL rfl (fun h2 => ?_) (fun h2 => ?_)
    · have h2' : byteAt b p = 0 ∧ byteAt b (p + 1) = 0 := by
        simp only [Bool.and_eq_true, beq_iff_eq] at h2
        omega
      rw [if_pos h2'] at hg
      subst hg
      repeat (first | refine AWd_step hT rfl rfl rfl (by first | exact True.intro | omega | exact sd) ?_ | refine AWk_step hT rfl rfl (by first | exact True.intro | omega | exact sd) ?_ | refine AWk_step0 hT rfl (by first | exact True.intro | omega | exact sd) ?_ | refine AWd_nil ?_ | refine AWk_nil ?_ | refine AWd_gstep hT rfl rfl rfl rfl rfl (by intro hg; first | exact ⟨True.intro, True.intro⟩ | exact sg hg) ?_ | refine AWk_gstep hT rfl rfl rfl rfl (by intro hg; first | exact ⟨True.intro, True.intro⟩ | exact sg hg) ?_ | refine AW_seq ?_ | refine AW_region ?_ | refine AW_draw mixed (by kernel_rfl) ?_ | refine AW_block ?_ | refine AW_skip ?_ | refine AW_exit ?_ | refine AW_ret ?_)
      exact ret_exact (r := .tup [.d (.sl 3 (encNs out)), .d (.int .i64 0)]) rfl (AV.le.tup ⟨AV.le.dat, .refl _, trivial⟩) rfl rfl rfl rfl ⟨rfl, by rw [hwr2]; rfl⟩
    · have h2' : ¬ (byteAt b p = 0 ∧ byteAt b (p + 1) = 0) := by
        intro hh
        have : ((byteAt b p : Int) == 0 && (byteAt b (p + 1) : Int) == 0) = true := by
          simp only [Bool.and_eq_true, beq_iff_eq]
          omega
        exact absurd (this.symm.trans h2) (by simp)
      rw [if_neg h2'] at hg
      have hob := H p c hp hc
      have hok := hf p c hp hc
      generalize f p c = q at hob hok hg
      obtain ⟨⟨t, v, k⟩, er, p', c'⟩ := q
      simp only [nCells] at hob hok hg
      repeat (first | refine AWd_step hT rfl rfl rfl (by first | exact True.intro | omega | exact sd) ?_ | refine AWk_step hT rfl rfl (by first | exact True.intro | omega | exact sd) ?_ | refine AWk_step0 hT rfl (by first | exact True.intro | omega | exact sd) ?_ | refine AWd_nil ?_ | refine AWk_nil ?_ | refine AWd_gstep hT rfl rfl rfl rfl rfl (by intro hg; first | exact ⟨True.intro, True.intro⟩ | exact sg hg) ?_ | refine AWk_gstep hT rfl rfl rfl rfl (by intro hg; first | exact ⟨True.intro, True.intro⟩ | exact sg hg) ?_ | refine AW_seq ?_ | refine AW_region ?_ | refine AW_draw mixed (by kernel_rfl) ?_ | refine AW_block ?_ | refine AW_skip ?_ | refine AW_exit ?_ | refine AW_ret ?_)
      refine AWk_op (callS1 rfl rfl hob [0] (by decide) rfl rfl rfl rfl rfl rfl rfl) rfl ?_
      repeat (first | refine AWd_step hT rfl rfl rfl (by first | exact True.intro | omega | exact sd) ?_ | refine AWk_step hT rfl rfl (by first | exact True.intro | omega | exact sd) ?_ | refine AWk_step0 hT rfl (by first | exact True.intro | omega | exact sd) ?_ | refine AWd_nil ?_ | refine AWk_nil ?_ | refine AWd_gstep hT rfl rfl rfl rfl rfl (by intro hg; first | exact ⟨True.intro, True.intro⟩ | exact sg hg) ?_ | refine AWk_gstep hT rfl rfl rfl rfl (by intro hg; first | exact ⟨True.intro, True.intro⟩ | exact sg hg) ?_ | refine AW_seq ?_ | refine AW_region ?_ | refine AW_draw mixed (by kernel_rfl) ?_ | refine AW_block ?_ | refine AW_skip ?_ | refine AW_exit ?_ | refine AW_ret ?_)
      refine AW_condL rfl (fun h3 => ?_) (fun h3 => ?_)
      · have h3' : er ≠ 0 := by simpa using h3
        rw [if_pos h3'] at hg
        subst hg
        repeat (first | refine AWd_step hT rfl rfl rfl (by first | exact True.intro | omega | exact sd) ?_ | refine AWk_step hT rfl rfl (by first | exact True.intro | omega | exact sd) ?_ | refine AWk_step0 hT rfl (by first | exact True.intro | omega | exact sd) ?_ | refine AWd_nil ?_ | refine AWk_nil ?_ | refine AWd_gstep hT rfl rfl rfl rfl rfl (by intro hg; first | exact ⟨True.intro, True.intro⟩ | exact sg hg) ?_ | refine AWk_gstep hT rfl rfl rfl rfl (by intro hg; first | exact ⟨True.intro, True.intro⟩ | exact sg hg) ?_ | refine AW_seq ?_ | refine AW_region ?_ | refine AW_draw mixed (by kernel_rfl) ?_ | refine AW_block ?_ | refine AW_skip ?_ | refine AW_exit ?_ | refine AW_ret ?_)
        exact ret_exact (r := .tup [.d (.sl 3 (encNs [])), .d (.int .i64 er)]) rfl (AV.le.tup ⟨AV.le.nils, .refl _, trivial⟩) rfl rfl rfl rfl ⟨rfl, rfl⟩
      · have h3' : ¬ er ≠ 0 := by simpa using h3
        have hok2 := hok.2.2.2 (by simpa using h3)
        rw [if_neg h3'] at hg
        repeat (first | refine AWd_step hT rfl rfl rfl (by first | exact True.intro | omega | exact sd) ?_ | refine AWk_step hT rfl rfl (by first | exact True.intro | omega | exact sd) ?_ | refine AWk_step0 hT rfl (by first | exact True.intro | omega | exact sd) ?_ | refine AWd_nil ?_ | refine AWk_nil ?_ | refine AWd_gstep hT rfl rfl rfl rfl rfl (by intro hg; first | exact ⟨True.intro, True.intro⟩ | exact sg hg) ?_ | refine AWk_gstep hT rfl rfl rfl rfl (by intro hg; first | exact ⟨True.intro, True.intro⟩ | exact sg hg) ?_ | refine AW_seq ?_ | refine AW_region ?_ | refine AW_draw mixed (by kernel_rfl) ?_ | refine AW_block ?_ | refine AW_skip ?_ | refine AW_exit ?_ | refine AW_ret ?_)
        refine AWk_op (append_rightL (i := 1) hT rfl rfl rfl rfl rfl rfl (by show ((encNs out).length + 1) * (56 + 1) ≤ _; omega)) rfl ?_
        repeat (first | refine AWd_step hT rfl rfl rfl (by first | exact True.intro | omega | exact sd) ?_ | refine AWk_step hT rfl rfl (by first | exact True.intro | omega | exact sd) ?_ | refine AWk_step0 hT rfl (by first | exact True.intro | omega | exact sd) ?_ | refine AWd_nil ?_ | refine AWk_nil ?_ | refine AWd_gstep hT rfl rfl rfl rfl rfl (by intro hg; first | exact ⟨True.intro, True.intro⟩ | exact sg hg) ?_ | refine AWk_gstep hT rfl rfl rfl rfl (by intro hg; first | exact ⟨True.intro, True.intro⟩ | exact sg hg) ?_ | refine AW_seq ?_ | refine AW_region ?_ | refine AW_draw mixed (by kernel_rfl) ?_ | refine AW_block ?_ | refine AW_skip ?_ | refine AW_exit ?_ | refine AW_ret ?_)
        have hres : encNs (out ++ [.mk t v k]) = encNs out ++ [encN (.mk t v k)] := by rw [encNs_append]; rfl
        exact ⟨(p', c', m, out ++ [.mk t v k]), [_], ⟨hok.2.1, hok2.2, by simp only; omega, by simp only [List.length_append, List.length_singleton]; omega, hg⟩, by simp only; omega, ⟨.refl _, .refl _, .refl _, AV.le.eq (by rw [hres]; rfl), trivial⟩, ⟨ObLe.refl _, ⟨rfl, by rw [hres]; rfl⟩, ObLe.refl _, trivial⟩, Env.below_mono hE (by simp), rfl, rfl⟩
end Tdoc
