/- DatagroupsNumbers: the law is always true. -/
import Derived.Test.YtkkfcpohiofinaaDoorE21
set_option linter.unusedVariables false
set_option linter.unusedSimpArgs false
namespace Tdoc
open Go Go.Proofs

set_option maxHeartbeats 4000000 in
set_option maxRecDepth 100000 in
theorem datagroupsNumbers_spec (n : Int) (hw : -9223372036854775808 ≤ n ∧ n ≤ 9223372036854775807) :
    Spec Tryd.prog 3 [.d (.int .i64 n)] [] (fun r h' => r = .d (.bool true) ∧ h' = []) := by
  have h1 := Tag_spec n hw
  have h2 := TagR_spec n hw
  have h3 := Group_spec n
  have h4 := GroupR_spec n
  have h5 := File_spec n hw
  have h6 := FileR_spec n hw
  generalize tagR n = a at h1 h2
  generalize groupR n = b at h3 h4
  generalize fileR n = c at h5 h6
  obtain ⟨a1, a2⟩ := a
  obtain ⟨b1, b2⟩ := b
  obtain ⟨c1, c2, c3⟩ := c
  simp only at h1 h2 h3 h4 h5 h6
  refine Spec_of_body hT Tryd.func3 rfl rfl rfl rfl ?_
  intro E hE
  repeat (first | refine AWd_step hT rfl rfl rfl (by first | exact True.intro | omega | exact sd) ?_ | refine AWk_step hT rfl rfl (by first | exact True.intro | omega | exact sd) ?_ | refine AWk_step0 hT rfl (by first | exact True.intro | omega | exact sd) ?_ | refine AWd_nil ?_ | refine AWk_nil ?_ | refine AWd_gstep hT rfl rfl rfl rfl rfl (by intro hg; first | exact ⟨True.intro, True.intro⟩ | exact sg hg) ?_ | refine AWk_gstep hT rfl rfl rfl rfl (by intro hg; first | exact ⟨True.intro, True.intro⟩ | exact sg hg) ?_ | refine AW_seq ?_ | refine AW_region ?_ | refine AW_draw mixed (by kernel_rfl) ?_ | refine AW_block ?_ | refine AW_skip ?_ | refine AW_exit ?_ | refine AW_ret ?_)
  refine AWk_op (callS0 rfl rfl h1 rfl rfl rfl) rfl ?_
  repeat (first | refine AWd_step hT rfl rfl rfl (by first | exact True.intro | omega | exact sd) ?_ | refine AWk_step hT rfl rfl (by first | exact True.intro | omega | exact sd) ?_ | refine AWk_step0 hT rfl (by first | exact True.intro | omega | exact sd) ?_ | refine AWd_nil ?_ | refine AWk_nil ?_ | refine AWd_gstep hT rfl rfl rfl rfl rfl (by intro hg; first | exact ⟨True.intro, True.intro⟩ | exact sg hg) ?_ | refine AWk_gstep hT rfl rfl rfl rfl (by intro hg; first | exact ⟨True.intro, True.intro⟩ | exact sg hg) ?_ | refine AW_seq ?_ | refine AW_region ?_ | refine AW_draw mixed (by kernel_rfl) ?_ | refine AW_block ?_ | refine AW_skip ?_ | refine AW_exit ?_ | refine AW_ret ?_)
  refine AWk_op (callS0 rfl rfl h2 rfl rfl rfl) rfl ?_
  repeat (first | refine AWd_step hT rfl rfl rfl (by first | exact True.intro | omega | exact sd) ?_ | refine AWk_step hT rfl rfl (by first | exact True.intro | omega | exact sd) ?_ | refine AWk_step0 hT rfl (by first | exact True.intro | omega | exact sd) ?_ | refine AWd_nil ?_ | refine AWk_nil ?_ | refine AWd_gstep hT rfl rfl rfl rfl rfl (by intro hg; first | exact ⟨True.intro, True.intro⟩ | exact sg hg) ?_ | refine AWk_gstep hT rfl rfl rfl rfl (by intro hg; first | exact ⟨True.intro, True.intro⟩ | exact sg hg) ?_ | refine AW_seq ?_ | refine AW_region ?_ | refine AW_draw mixed (by kernel_rfl) ?_ | refine AW_block ?_ | refine AW_skip ?_ | refine AW_exit ?_ | refine AW_ret ?_)
  refine AWk_op (callS0 rfl rfl h3 rfl rfl rfl) rfl ?_
  repeat (first | refine AWd_step hT rfl rfl rfl (by first | exact True.intro | omega | exact sd) ?_ | refine AWk_step hT rfl rfl (by first | exact True.intro | omega | exact sd) ?_ | refine AWk_step0 hT rfl (by first | exact True.intro | omega | exact sd) ?_ | refine AWd_nil ?_ | refine AWk_nil ?_ | refine AWd_gstep hT rfl rfl rfl rfl rfl (by intro hg; first | exact ⟨True.intro, True.intro⟩ | exact sg hg) ?_ | refine AWk_gstep hT rfl rfl rfl rfl (by intro hg; first | exact ⟨True.intro, True.intro⟩ | exact sg hg) ?_ | refine AW_seq ?_ | refine AW_region ?_ | refine AW_draw mixed (by kernel_rfl) ?_ | refine AW_block ?_ | refine AW_skip ?_ | refine AW_exit ?_ | refine AW_ret ?_)
  refine AWk_op (callS0 rfl rfl h4 rfl rfl rfl) rfl ?_
  repeat (first | refine AWd_step hT rfl rfl rfl (by first | exact True.intro | omega | exact sd) ?_ | refine AWk_step hT rfl rfl (by first | exact True.intro | omega | exact sd) ?_ | refine AWk_step0 hT rfl (by first | exact True.intro | omega | exact sd) ?_ | refine AWd_nil ?_ | refine AWk_nil ?_ | refine AWd_gstep hT rfl rfl rfl rfl rfl (by intro hg; first | exact ⟨True.intro, True.intro⟩ | exact sg hg) ?_ | refine AWk_gstep hT rfl rfl rfl rfl (by intro hg; first | exact ⟨True.intro, True.intro⟩ | exact sg hg) ?_ | refine AW_seq ?_ | refine AW_region ?_ | refine AW_draw mixed (by kernel_rfl) ?_ | refine AW_block ?_ | refine AW_skip ?_ | refine AW_exit ?_ | refine AW_ret ?_)
  refine AWk_op (callS0 rfl rfl h5 rfl rfl rfl) rfl ?_
  repeat (first | refine AWd_step hT rfl rfl rfl (by first | exact True.intro | omega | exact sd) ?_ | refine AWk_step hT rfl rfl (by first | exact True.intro | omega | exact sd) ?_ | refine AWk_step0 hT rfl (by first | exact True.intro | omega | exact sd) ?_ | refine AWd_nil ?_ | refine AWk_nil ?_ | refine AWd_gstep hT rfl rfl rfl rfl rfl (by intro hg; first | exact ⟨True.intro, True.intro⟩ | exact sg hg) ?_ | refine AWk_gstep hT rfl rfl rfl rfl (by intro hg; first | exact ⟨True.intro, True.intro⟩ | exact sg hg) ?_ | refine AW_seq ?_ | refine AW_region ?_ | refine AW_draw mixed (by kernel_rfl) ?_ | refine AW_block ?_ | refine AW_skip ?_ | refine AW_exit ?_ | refine AW_ret ?_)
  refine AWk_op (callS0 rfl rfl h6 rfl rfl rfl) rfl ?_
  repeat (first | refine AWd_step hT rfl rfl rfl (by first | exact True.intro | omega | exact sd) ?_ | refine AWk_step hT rfl rfl (by first | exact True.intro | omega | exact sd) ?_ | refine AWk_step0 hT rfl (by first | exact True.intro | omega | exact sd) ?_ | refine AWd_nil ?_ | refine AWk_nil ?_ | refine AWd_gstep hT rfl rfl rfl rfl rfl (by intro hg; first | exact ⟨True.intro, True.intro⟩ | exact sg hg) ?_ | refine AWk_gstep hT rfl rfl rfl rfl (by intro hg; first | exact ⟨True.intro, True.intro⟩ | exact sg hg) ?_ | refine AW_seq ?_ | refine AW_region ?_ | refine AW_draw mixed (by kernel_rfl) ?_ | refine AW_block ?_ | refine AW_skip ?_ | refine AW_exit ?_ | refine AW_ret ?_)
  refine AWk_op (callS0 rfl rfl awake_spec rfl rfl rfl) rfl ?_
  repeat (first | refine AWd_step hT rfl rfl rfl (by first | exact True.intro | omega | exact sd) ?_ | refine AWk_step hT rfl rfl (by first | exact True.intro | omega | exact sd) ?_ | refine AWk_step0 hT rfl (by first | exact True.intro | omega | exact sd) ?_ | refine AWd_nil ?_ | refine AWk_nil ?_ | refine AWd_gstep hT rfl rfl rfl rfl rfl (by intro hg; first | exact ⟨True.intro, True.intro⟩ | exact sg hg) ?_ | refine AWk_gstep hT rfl rfl rfl rfl (by intro hg; first | exact ⟨True.intro, True.intro⟩ | exact sg hg) ?_ | refine AW_seq ?_ | refine AW_region ?_ | refine AW_draw mixed (by kernel_rfl) ?_ | refine AW_block ?_ | refine AW_skip ?_ | refine AW_exit ?_ | refine AW_ret ?_)
  exact ret_exact (r := .d (.bool true)) rfl (AV.le.eq (by show AV.d (.bool _) = _; simp)) rfl rfl rfl rfl ⟨rfl, rfl⟩
end Tdoc
