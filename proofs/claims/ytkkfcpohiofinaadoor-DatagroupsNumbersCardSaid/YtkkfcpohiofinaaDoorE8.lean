/- The reference's check, count, lengths, writing, Encode; and that they say what the program says. -/
import Derived.Test.YtkkfcpohiofinaaDoorE7
set_option linter.unusedVariables false
set_option linter.unusedSimpArgs false
namespace Tdoc
open Go Go.Proofs

mutual
theorem chkN_any (d : Nat) : ∀ (n : Node) (c c' : Nat), (chkN d n c).1 = (chkN d n c').1
  | .mk t v k, c, c' => by
    rw [chkN, chkN]
    split
    · rfl
    · split
      · rfl
      · split
        · rfl
        · exact chkL_any (d + 1) k _ _
theorem chkL_any (d : Nat) : ∀ (l : List Node) (c c' : Nat), (chkL d l c).1 = (chkL d l c').1
  | [], c, c' => rfl
  | a :: l, c, c' => by
    rw [chkL, chkL, chkN_any d a c c']
    split
    · exact chkL_any d l _ _
    · exact chkN_any d a c c'
end

set_option maxHeartbeats 8000000 in
set_option maxRecDepth 100000 in
theorem checkR_spec : ∀ (n d : Nat) (l : List Node), sizeL l ≤ n → fitL l → l.length ≤ 1000000000 → d ≤ 1000 →
    Spec Tryd.prog 41 [.d (.sl 3 (encNs l)), .d (.int .i64 (d : Int))] [] (fun r h' => r = .d (.int .i64 (chkL d l 0).1) ∧ h' = []) := by
  intro n
  induction n using Nat.strongRecOn with
  | _ n ih =>
  intro d l hsz hf hl hd
  have hlen := encNs_length l
  refine Spec_of_body hT Tryd.func41 rfl rfl rfl rfl ?_
  intro E hE
  generalize hfin : (chkL d l 0).1 = fin
  repeat (first | refine AWd_step hT rfl rfl rfl (by first | exact True.intro | omega | exact sd) ?_ | refine AWk_step hT rfl rfl (by first | exact True.intro | omega | exact sd) ?_ | refine AWk_step0 hT rfl (by first | exact True.intro | omega | exact sd) ?_ | refine AWd_nil ?_ | refine AWk_nil ?_ | refine AWd_gstep hT rfl rfl rfl rfl rfl (by intro hg; first | exact ⟨True.intro, True.intro⟩ | exact sg hg) ?_ | refine AWk_gstep hT rfl rfl rfl rfl (by intro hg; first | exact ⟨True.intro, True.intro⟩ | exact sg hg) ?_ | refine AW_seq ?_ | refine AW_region ?_ | refine AW_draw mixed (by kernel_rfl) ?_ | refine AW_block ?_ | refine AW_skip ?_ | refine AW_exit ?_ | refine AW_ret ?_)
  refine AW_loopC (ι := Nat) (fun i => [(0, .d (.sl 3 (encNs l))), (1, .d (.int .i64 (d : Int))), (5, .d (.int .i64 (i : Int)))]) (fun _ => []) (fun i => i ≤ l.length ∧ (chkL d (l.drop i) 0).1 = fin) (fun i => l.length - i) 0 ⟨by omega, by simpa using hfin⟩
    ⟨.refl _, .refl _, .refl _, trivial⟩ (HLe.refl _) ?_
  rintro i ⟨hi, hg⟩
  have hwr : IntKind.i64.wrap ((i : Int) + 1) = ((i + 1 : Nat) : Int) := by rw [wrap_id (by omega)]; simp
  repeat (first | refine AWd_step hT rfl rfl rfl (by first | exact True.intro | omega | exact sd) ?_ | refine AWk_step hT rfl rfl (by first | exact True.intro | omega | exact sd) ?_ | refine AWk_step0 hT rfl (by first | exact True.intro | omega | exact sd) ?_ | refine AWd_nil ?_ | refine AWk_nil ?_ | refine AWd_gstep hT rfl rfl rfl rfl rfl (by intro hg; first | exact ⟨True.intro, True.intro⟩ | exact sg hg) ?_ | refine AWk_gstep hT rfl rfl rfl rfl (by intro hg; first | exact ⟨True.intro, True.intro⟩ | exact sg hg) ?_ | refine AW_seq ?_ | refine AW_region ?_ | refine AW_draw mixed (by kernel_rfl) ?_ | refine AW_block ?_ | refine AW_skip ?_ | refine AW_exit ?_ | refine AW_ret ?_)
  refine AW_condL rfl (fun h1 => ?_) (fun h1 => ?_)
  · have hlt : i < l.length := by rw [hlen] at h1; simpa using h1
    have hdrop : l.drop i = l[i] :: l.drop (i + 1) := by simp
    have hel : (encNs l)[((i : Int)).toNat]? = some (encN l[i]) := by simp [encNs_eq, hlt]
    have hsd := sizeL_drop l i hlt
    have hsl := sizeL_drop_le l i
    have hfi := fitL_at hf l[i] (List.getElem_mem hlt)
    rw [hdrop, chkL] at hg
    generalize l[i] = x at hel hsd hfi hg
    obtain ⟨t, v, k⟩ := x
    rw [encN] at hel
    have hv := ValidR_spec t hfi.1
    have hcon := ConstructedR_spec t hfi.1
    have hkl := encNs_length k
    have hvl := encB_length v
    have hsk : sizeN (.mk t v k) = 1 + sizeL k := by rw [sizeN]
    rw [chkN] at hg
    generalize tagOk t = ok at hv hg
    generalize tagCons t = con at hcon hg
    repeat (first | refine AWd_step hT rfl rfl rfl (by first | exact True.intro | omega | exact sd) ?_ | refine AWk_step hT rfl rfl (by first | exact True.intro | omega | exact sd) ?_ | refine AWk_step0 hT rfl (by first | exact True.intro | omega | exact sd) ?_ | refine AWd_nil ?_ | refine AWk_nil ?_ | refine AWd_gstep hT rfl rfl rfl rfl rfl (by intro hg; first | exact ⟨True.intro, True.intro⟩ | exact sg hg) ?_ | refine AWk_gstep hT rfl rfl rfl rfl (by intro hg; first | exact ⟨True.intro, True.intro⟩ | exact sg hg) ?_ | refine AW_seq ?_ | refine AW_region ?_ | refine AW_draw mixed (by kernel_rfl) ?_ | refine AW_block ?_ | refine AW_skip ?_ | refine AW_exit ?_ | refine AW_ret ?_)
    refine AWk_op (OpS_of_pure (indexAddr_ok hT rfl rfl rfl rfl (by omega) hel)) rfl ?_
    repeat (first | refine AWd_step hT rfl rfl rfl (by first | exact True.intro | omega | exact sd) ?_ | refine AWk_step hT rfl rfl (by first | exact True.intro | omega | exact sd) ?_ | refine AWk_step0 hT rfl (by first | exact True.intro | omega | exact sd) ?_ | refine AWd_nil ?_ | refine AWk_nil ?_ | refine AWd_gstep hT rfl rfl rfl rfl rfl (by intro hg; first | exact ⟨True.intro, True.intro⟩ | exact sg hg) ?_ | refine AWk_gstep hT rfl rfl rfl rfl (by intro hg; first | exact ⟨True.intro, True.intro⟩ | exact sg hg) ?_ | refine AW_seq ?_ | refine AW_region ?_ | refine AW_draw mixed (by kernel_rfl) ?_ | refine AW_block ?_ | refine AW_skip ?_ | refine AW_exit ?_ | refine AW_ret ?_)
    refine AWk_op (callS0 rfl rfl hv rfl rfl rfl) rfl ?_
    repeat (first | refine AWd_step hT rfl rfl rfl (by first | exact True.intro | omega | exact sd) ?_ | refine AWk_step hT rfl rfl (by first | exact True.intro | omega | exact sd) ?_ | refine AWk_step0 hT rfl (by first | exact True.intro | omega | exact sd) ?_ | refine AWd_nil ?_ | refine AWk_nil ?_ | refine AWd_gstep hT rfl rfl rfl rfl rfl (by intro hg; first | exact ⟨True.intro, True.intro⟩ | exact sg hg) ?_ | refine AWk_gstep hT rfl rfl rfl rfl (by intro hg; first | exact ⟨True.intro, True.intro⟩ | exact sg hg) ?_ | refine AW_seq ?_ | refine AW_region ?_ | refine AW_draw mixed (by kernel_rfl) ?_ | refine AW_block ?_ | refine AW_skip ?_ | refine AW_exit ?_ | refine AW_ret ?_)
    refine AW_condL rfl (fun h2 => ?_) (fun h2 => ?_)
    · have h2' : ok = false := by simpa using h2
      simp only [if_pos h2', show ¬ (4 : Int) = 0 by omega, if_false] at hg
      subst hg
      repeat (first | refine AWd_step hT rfl rfl rfl (by first | exact True.intro | omega | exact sd) ?_ | refine AWk_step hT rfl rfl (by first | exact True.intro | omega | exact sd) ?_ | refine AWk_step0 hT rfl (by first | exact True.intro | omega | exact sd) ?_ | refine AWd_nil ?_ | refine AWk_nil ?_ | refine AWd_gstep hT rfl rfl rfl rfl rfl (by intro hg; first | exact ⟨True.intro, True.intro⟩ | exact sg hg) ?_ | refine AWk_gstep hT rfl rfl rfl rfl (by intro hg; first | exact ⟨True.intro, True.intro⟩ | exact sg hg) ?_ | refine AW_seq ?_ | refine AW_region ?_ | refine AW_draw mixed (by kernel_rfl) ?_ | refine AW_block ?_ | refine AW_skip ?_ | refine AW_exit ?_ | refine AW_ret ?_)
      exact ret_exact rfl (.refl _) rfl rfl rfl rfl ⟨rfl, rfl⟩
    · have h2' : ¬ ok = false := by simpa using h2
      simp only [if_neg h2'] at hg
      repeat (first | refine AWd_step hT rfl rfl rfl (by first | exact True.intro | omega | exact sd) ?_ | refine AWk_step hT rfl rfl (by first | exact True.intro | omega | exact sd) ?_ | refine AWk_step0 hT rfl (by first | exact True.intro | omega | exact sd) ?_ | refine AWd_nil ?_ | refine AWk_nil ?_ | refine AWd_gstep hT rfl rfl rfl rfl rfl (by intro hg; first | exact ⟨True.intro, True.intro⟩ | exact sg hg) ?_ | refine AWk_gstep hT rfl rfl rfl rfl (by intro hg; first | exact ⟨True.intro, True.intro⟩ | exact sg hg) ?_ | refine AW_seq ?_ | refine AW_region ?_ | refine AW_draw mixed (by kernel_rfl) ?_ | refine AW_block ?_ | refine AW_skip ?_ | refine AW_exit ?_ | refine AW_ret ?_)
      refine AWk_op (callS0 rfl rfl hcon rfl rfl rfl) rfl ?_
      repeat (first | refine AWd_step hT rfl rfl rfl (by first | exact True.intro | omega | exact sd) ?_ | refine AWk_step hT rfl rfl (by first | exact True.intro | omega | exact sd) ?_ | refine AWk_step0 hT rfl (by first | exact True.intro | omega | exact sd) ?_ | refine AWd_nil ?_ | refine AWk_nil ?_ | refine AWd_gstep hT rfl rfl rfl rfl rfl (by intro hg; first | exact ⟨True.intro, True.intro⟩ | exact sg hg) ?_ | refine AWk_gstep hT rfl rfl rfl rfl (by intro hg; first | exact ⟨True.intro, True.intro⟩ | exact sg hg) ?_ | refine AW_seq ?_ | refine AW_region ?_ | refine AW_draw mixed (by kernel_rfl) ?_ | refine AW_block ?_ | refine AW_skip ?_ | refine AW_exit ?_ | refine AW_ret ?_)
      refine AWk_gop rfl rfl rfl (fun hg => ⟨by first | exact True.intro | exact ⟨hg, True.intro⟩ | exact ⟨hg, hg, True.intro⟩, callS0 rfl rfl hcon rfl rfl rfl⟩) ?_
      repeat (first | refine AWd_step hT rfl rfl rfl (by first | exact True.intro | omega | exact sd) ?_ | refine AWk_step hT rfl rfl (by first | exact True.intro | omega | exact sd) ?_ | refine AWk_step0 hT rfl (by first | exact True.intro | omega | exact sd) ?_ | refine AWd_nil ?_ | refine AWk_nil ?_ | refine AWd_gstep hT rfl rfl rfl rfl rfl (by intro hg; first | exact ⟨True.intro, True.intro⟩ | exact sg hg) ?_ | refine AWk_gstep hT rfl rfl rfl rfl (by intro hg; first | exact ⟨True.intro, True.intro⟩ | exact sg hg) ?_ | refine AW_seq ?_ | refine AW_region ?_ | refine AW_draw mixed (by kernel_rfl) ?_ | refine AW_block ?_ | refine AW_skip ?_ | refine AW_exit ?_ | refine AW_ret ?_)
      have hcd : ((con && decide (((encB v).length : Int) > 0)) || (!con && decide (((encNs k).length : Int) > 0))) = true ↔ ((con = false ∧ k ≠ []) ∨ (con = true ∧ v ≠ [])) := by
        rw [hkl, hvl, Bool.or_eq_true, Bool.and_eq_true, Bool.and_eq_true, len_pos, len_pos, Bool.not_eq_true']
        exact Or.comm
      refine AW_condL rfl (fun h3 => ?_) (fun h3 => ?_)
      · have hp := hcd.1 h3
        simp only [if_pos hp, show ¬ (1 : Int) = 0 by omega, if_false] at hg
        subst hg
        repeat (first | refine AWd_step hT rfl rfl rfl (by first | exact True.intro | omega | exact sd) ?_ | refine AWk_step hT rfl rfl (by first | exact True.intro | omega | exact sd) ?_ | refine AWk_step0 hT rfl (by first | exact True.intro | omega | exact sd) ?_ | refine AWd_nil ?_ | refine AWk_nil ?_ | refine AWd_gstep hT rfl rfl rfl rfl rfl (by intro hg; first | exact ⟨True.intro, True.intro⟩ | exact sg hg) ?_ | refine AWk_gstep hT rfl rfl rfl rfl (by intro hg; first | exact ⟨True.intro, True.intro⟩ | exact sg hg) ?_ | refine AW_seq ?_ | refine AW_region ?_ | refine AW_draw mixed (by kernel_rfl) ?_ | refine AW_block ?_ | refine AW_skip ?_ | refine AW_exit ?_ | refine AW_ret ?_)
        exact ret_exact rfl (.refl _) rfl rfl rfl rfl ⟨rfl, rfl⟩
      · have hp : ¬ ((con = false ∧ k ≠ []) ∨ (con = true ∧ v ≠ [])) := fun hh => by have := hcd.2 hh; rw [h3] at this; cases this
        simp only [if_neg hp] at hg
        repeat (first | refine AWd_step hT rfl rfl rfl (by first | exact True.intro | omega | exact sd) ?_ | refine AWk_step hT rfl rfl (by first | exact True.intro | omega | exact sd) ?_ | refine AWk_step0 hT rfl (by first | exact True.intro | omega | exact sd) ?_ | refine AWd_nil ?_ | refine AWk_nil ?_ | refine AWd_gstep hT rfl rfl rfl rfl rfl (by intro hg; first | exact ⟨True.intro, True.intro⟩ | exact sg hg) ?_ | refine AWk_gstep hT rfl rfl rfl rfl (by intro hg; first | exact ⟨True.intro, True.intro⟩ | exact sg hg) ?_ | refine AW_seq ?_ | refine AW_region ?_ | refine AW_draw mixed (by kernel_rfl) ?_ | refine AW_block ?_ | refine AW_skip ?_ | refine AW_exit ?_ | refine AW_ret ?_)
        refine AW_condL rfl (fun h5 => ?_) (fun h5 => ?_)
        · have h5' : 8 < d := by simp at h5; omega
          simp only [if_pos h5', show ¬ (7 : Int) = 0 by omega, if_false] at hg
          subst hg
          repeat (first | refine AWd_step hT rfl rfl rfl (by first | exact True.intro | omega | exact sd) ?_ | refine AWk_step hT rfl rfl (by first | exact True.intro | omega | exact sd) ?_ | refine AWk_step0 hT rfl (by first | exact True.intro | omega | exact sd) ?_ | refine AWd_nil ?_ | refine AWk_nil ?_ | refine AWd_gstep hT rfl rfl rfl rfl rfl (by intro hg; first | exact ⟨True.intro, True.intro⟩ | exact sg hg) ?_ | refine AWk_gstep hT rfl rfl rfl rfl (by intro hg; first | exact ⟨True.intro, True.intro⟩ | exact sg hg) ?_ | refine AW_seq ?_ | refine AW_region ?_ | refine AW_draw mixed (by kernel_rfl) ?_ | refine AW_block ?_ | refine AW_skip ?_ | refine AW_exit ?_ | refine AW_ret ?_)
          exact ret_exact rfl (.refl _) rfl rfl rfl rfl ⟨rfl, rfl⟩
        · have h5' : ¬ 8 < d := by simp at h5; omega
          simp only [if_neg h5'] at hg
          have hwd : IntKind.i64.wrap ((d : Int) + 1) = ((d + 1 : Nat) : Int) := by rw [wrap_id (by omega)]; simp
          have hrec := ih (sizeL k) (by omega) (d + 1) k (Nat.le_refl _) hfi.2.2.2 hfi.2.2.1 (by omega)
          rw [← hwd] at hrec
          have hg2 : (if (chkL (d + 1) k 0).1 = 0 then (chkL d (l.drop (i + 1)) 0).1 else (chkL (d + 1) k 0).1) = fin := by
            rw [← hg, chkL_any (d + 1) k 0 (0 + 1)]
            by_cases h0 : (chkL (d + 1) k (0 + 1)).1 = 0
            · rw [if_pos h0, if_pos h0]; exact chkL_any _ _ _ _
            · rw [if_neg h0, if_neg h0]
          replace hg := hg2
          generalize (chkL (d + 1) k 0).1 = e at hrec hg
          repeat (first | refine AWd_step hT rfl rfl rfl (by first | exact True.intro | omega | exact sd) ?_ | refine AWk_step hT rfl rfl (by first | exact True.intro | omega | exact sd) ?_ | refine AWk_step0 hT rfl (by first | exact True.intro | omega | exact sd) ?_ | refine AWd_nil ?_ | refine AWk_nil ?_ | refine AWd_gstep hT rfl rfl rfl rfl rfl (by intro hg; first | exact ⟨True.intro, True.intro⟩ | exact sg hg) ?_ | refine AWk_gstep hT rfl rfl rfl rfl (by intro hg; first | exact ⟨True.intro, True.intro⟩ | exact sg hg) ?_ | refine AW_seq ?_ | refine AW_region ?_ | refine AW_draw mixed (by kernel_rfl) ?_ | refine AW_block ?_ | refine AW_skip ?_ | refine AW_exit ?_ | refine AW_ret ?_)
          refine AWk_op (callS0 rfl rfl hrec rfl rfl rfl) rfl ?_
          repeat (first | refine AWd_step hT rfl rfl rfl (by first | exact True.intro | omega | exact sd) ?_ | refine AWk_step hT rfl rfl (by first | exact True.intro | omega | exact sd) ?_ | refine AWk_step0 hT rfl (by first | exact True.intro | omega | exact sd) ?_ | refine AWd_nil ?_ | refine AWk_nil ?_ | refine AWd_gstep hT rfl rfl rfl rfl rfl (by intro hg; first | exact ⟨True.intro, True.intro⟩ | exact sg hg) ?_ | refine AWk_gstep hT rfl rfl rfl rfl (by intro hg; first | exact ⟨True.intro, True.intro⟩ | exact sg hg) ?_ | refine AW_seq ?_ | refine AW_region ?_ | refine AW_draw mixed (by kernel_rfl) ?_ | refine AW_block ?_ | refine AW_skip ?_ | refine AW_exit ?_ | refine AW_ret ?_)
          refine AW_condL rfl (fun h6 => ?_) (fun h6 => ?_)
          · have h6' : ¬ e = 0 := by simpa using h6
            rw [if_neg h6'] at hg
            subst hg
            repeat (first | refine AWd_step hT rfl rfl rfl (by first | exact True.intro | omega | exact sd) ?_ | refine AWk_step hT rfl rfl (by first | exact True.intro | omega | exact sd) ?_ | refine AWk_step0 hT rfl (by first | exact True.intro | omega | exact sd) ?_ | refine AWd_nil ?_ | refine AWk_nil ?_ | refine AWd_gstep hT rfl rfl rfl rfl rfl (by intro hg; first | exact ⟨True.intro, True.intro⟩ | exact sg hg) ?_ | refine AWk_gstep hT rfl rfl rfl rfl (by intro hg; first | exact ⟨True.intro, True.intro⟩ | exact sg hg) ?_ | refine AW_seq ?_ | refine AW_region ?_ | refine AW_draw mixed (by kernel_rfl) ?_ | refine AW_block ?_ | refine AW_skip ?_ | refine AW_exit ?_ | refine AW_ret ?_)
            exact ret_exact rfl (.refl _) rfl rfl rfl rfl ⟨rfl, rfl⟩
          · have h6' : e = 0 := by simpa using h6
            rw [if_pos h6'] at hg
            repeat (first | refine AWd_step hT rfl rfl rfl (by first | exact True.intro | omega | exact sd) ?_ | refine AWk_step hT rfl rfl (by first | exact True.intro | omega | exact sd) ?_ | refine AWk_step0 hT rfl (by first | exact True.intro | omega | exact sd) ?_ | refine AWd_nil ?_ | refine AWk_nil ?_ | refine AWd_gstep hT rfl rfl rfl rfl rfl (by intro hg; first | exact ⟨True.intro, True.intro⟩ | exact sg hg) ?_ | refine AWk_gstep hT rfl rfl rfl rfl (by intro hg; first | exact ⟨True.intro, True.intro⟩ | exact sg hg) ?_ | refine AW_seq ?_ | refine AW_region ?_ | refine AW_draw mixed (by kernel_rfl) ?_ | refine AW_block ?_ | refine AW_skip ?_ | refine AW_exit ?_ | refine AW_ret ?_)
            exact ⟨i + 1, [_], ⟨by omega, hg⟩, by omega, ⟨.refl _, .refl _, AV.le.eq (by show AV.d (.int .i64 (IntKind.i64.wrap ((i : Int) + 1))) = _; rw [hwr]), trivial⟩, HLe.refl _, hE, rfl, rfl⟩
  · have hge : i = l.length := by rw [hlen] at h1; simp at h1; omega
    subst hge
    simp only [List.drop_length, chkL] at hg
    subst hg
    repeat (first | refine AWd_step hT rfl rfl rfl (by first | exact True.intro | omega | exact sd) ?_ | refine AWk_step hT rfl rfl (by first | exact True.intro | omega | exact sd) ?_ | refine AWk_step0 hT rfl (by first | exact True.intro | omega | exact sd) ?_ | refine AWd_nil ?_ | refine AWk_nil ?_ | refine AWd_gstep hT rfl rfl rfl rfl rfl (by intro hg; first | exact ⟨True.intro, True.intro⟩ | exact sg hg) ?_ | refine AWk_gstep hT rfl rfl rfl rfl (by intro hg; first | exact ⟨True.intro, True.intro⟩ | exact sg hg) ?_ | refine AW_seq ?_ | refine AW_region ?_ | refine AW_draw mixed (by kernel_rfl) ?_ | refine AW_block ?_ | refine AW_skip ?_ | refine AW_exit ?_ | refine AW_ret ?_)
    exact ret_exact rfl (.refl _) rfl rfl rfl rfl ⟨rfl, rfl⟩

/-! count, up to a limit -/
mutual
def cntN (most : Nat) : Node → Nat
  | .mk _ _ k => 1 + cntL most k 0
def cntL (most : Nat) : List Node → Nat → Nat
  | [], n => n
  | a :: l, n => if n ≤ most then cntL most l (n + cntN most a) else n
end
mutual
theorem cntN_ok (most : Nat) : ∀ (n : Node), (sizeN n ≤ most → cntN most n = sizeN n) ∧ (most < sizeN n → most < cntN most n)
  | .mk t v k => by
    have h := cntL_ok most k 0
    rw [sizeN, cntN]
    refine ⟨fun h1 => ?_, fun h1 => ?_⟩
    · have := h.1 (by omega); omega
    · by_cases h2 : 0 + sizeL k ≤ most
      · have := h.1 h2; omega
      · have := h.2 (by omega); omega
theorem cntL_ok (most : Nat) : ∀ (l : List Node) (n : Nat), (n + sizeL l ≤ most → cntL most l n = n + sizeL l) ∧ (most < n + sizeL l → most < cntL most l n)
  | [], n => by simp [cntL, sizeL]
  | a :: l, n => by
    have ha := cntN_ok most a
    have hl := cntL_ok most l (n + cntN most a)
    rw [sizeL, cntL]
    refine ⟨fun h1 => ?_, fun h1 => ?_⟩
    · rw [if_pos (by omega)]
      have h2 := ha.1 (by omega)
      have := hl.1 (by omega)
      omega
    · split
      · by_cases h2 : sizeN a ≤ most
        · have h3 := ha.1 h2
          exact hl.2 (by omega)
        · have h3 := ha.2 (by omega)
          exact hl.2 (by omega)
      · omega
end
mutual
theorem cntN_le (most : Nat) : ∀ (n : Node), cntN most n ≤ sizeN n
  | .mk t v k => by have := cntL_le most k 0; rw [sizeN, cntN]; omega
theorem cntL_le (most : Nat) : ∀ (l : List Node) (n : Nat), cntL most l n ≤ n + sizeL l
  | [], n => by simp [cntL, sizeL]
  | a :: l, n => by
    have ha := cntN_le most a
    have hl := cntL_le most l (n + cntN most a)
    rw [sizeL, cntL]
    split <;> omega
end

set_option maxHeartbeats 8000000 in
set_option maxRecDepth 100000 in
theorem Count_spec (most : Nat) (hm : most ≤ 1000000) : ∀ (n : Nat) (l : List Node), sizeL l ≤ n → n ≤ 1000000000 → l.length ≤ 1000000000 → fitL l →
    Spec Tryd.prog 42 [.d (.sl 3 (encNs l)), .d (.int .i64 (most : Int))] [] (fun r h' => r = .d (.int .i64 (cntL most l 0 : Int)) ∧ h' = []) := by
  intro n
  induction n using Nat.strongRecOn with
  | _ n ih =>
  intro l hsz hn hl hf
  have hlen := encNs_length l
  refine Spec_of_body hT Tryd.func42 rfl rfl rfl rfl ?_
  intro E hE
  generalize hfin : cntL most l 0 = fin
  repeat (first | refine AWd_step hT rfl rfl rfl (by first | exact True.intro | omega | exact sd) ?_ | refine AWk_step hT rfl rfl (by first | exact True.intro | omega | exact sd) ?_ | refine AWk_step0 hT rfl (by first | exact True.intro | omega | exact sd) ?_ | refine AWd_nil ?_ | refine AWk_nil ?_ | refine AWd_gstep hT rfl rfl rfl rfl rfl (by intro hg; first | exact ⟨True.intro, True.intro⟩ | exact sg hg) ?_ | refine AWk_gstep hT rfl rfl rfl rfl (by intro hg; first | exact ⟨True.intro, True.intro⟩ | exact sg hg) ?_ | refine AW_seq ?_ | refine AW_region ?_ | refine AW_draw mixed (by kernel_rfl) ?_ | refine AW_block ?_ | refine AW_skip ?_ | refine AW_exit ?_ | refine AW_ret ?_)
  refine AW_loopL (ι := Nat × Nat) (fun x => [(0, .d (.sl 3 (encNs l))), (1, .d (.int .i64 (most : Int))), (5, .d (.int .i64 (x.2 : Int))), (6, .d (.int .i64 (x.1 : Int)))]) (fun _ => []) (fun x => x.1 ≤ l.length ∧ x.2 + sizeL (l.drop x.1) ≤ 1000000000 ∧ cntL most (l.drop x.1) x.2 = fin) (fun x => l.length - x.1) (0, 0) ⟨by simp, by simp only [List.drop_zero]; omega, by simpa using hfin⟩
    ⟨.refl _, .refl _, .refl _, .refl _, trivial⟩ (HLe.refl _) ?_
  rintro ⟨i, c⟩ ⟨hi, hc, hg⟩
  simp only at hi hc hg ⊢
  have hwr : IntKind.i64.wrap ((i : Int) + 1) = ((i + 1 : Nat) : Int) := by rw [wrap_id (by omega)]; simp
  repeat (first | refine AWd_step hT rfl rfl rfl (by first | exact True.intro | omega | exact sd) ?_ | refine AWk_step hT rfl rfl (by first | exact True.intro | omega | exact sd) ?_ | refine AWk_step0 hT rfl (by first | exact True.intro | omega | exact sd) ?_ | refine AWd_nil ?_ | refine AWk_nil ?_ | refine AWd_gstep hT rfl rfl rfl rfl rfl (by intro hg; first | exact ⟨True.intro, True.intro⟩ | exact sg hg) ?_ | refine AWk_gstep hT rfl rfl rfl rfl (by intro hg; first | exact ⟨True.intro, True.intro⟩ | exact sg hg) ?_ | refine AW_seq ?_ | refine AW_region ?_ | refine AW_draw mixed (by kernel_rfl) ?_ | refine AW_block ?_ | refine AW_skip ?_ | refine AW_exit ?_ | refine AW_ret ?_)
  refine AW_condL rfl (fun h1 => ?_) (fun h1 => ?_)
  · have h1' : i < l.length ∧ c ≤ most := by rw [hlen] at h1; simp at h1; omega
    have hlt := h1'.1
    have hdrop : l.drop i = l[i] :: l.drop (i + 1) := by simp
    have hel : (encNs l)[((i : Int)).toNat]? = some (encN l[i]) := by simp [encNs_eq, hlt]
    have hsd := sizeL_drop l i hlt
    have hsl := sizeL_drop_le l i
    have hfi := fitL_at hf l[i] (List.getElem_mem hlt)
    have hcn := cntN_le most l[i]
    rw [hdrop, cntL, if_pos h1'.2] at hg
    generalize l[i] = x at hel hsd hfi hg hcn
    obtain ⟨t, v, k⟩ := x
    rw [encN] at hel
    have hsk : sizeN (.mk t v k) = 1 + sizeL k := by rw [sizeN]
    have hrec := ih (sizeL k) (by omega) k (Nat.le_refl _) (by omega) hfi.2.2.1 hfi.2.2.2
    rw [cntN] at hg hcn
    generalize cntL most k 0 = ck at hrec hg hcn
    have hw1 : IntKind.i64.wrap (1 + (ck : Int)) = 1 + (ck : Int) := wrap_id (by omega)
    have hw2 : IntKind.i64.wrap ((c : Int) + IntKind.i64.wrap (1 + (ck : Int))) = ((c + (1 + ck) : Nat) : Int) := by rw [hw1, wrap_id (by omega)]; omega
    repeat (first | refine AWd_step hT rfl rfl rfl (by first | exact True.intro | omega | exact sd) ?_ | refine AWk_step hT rfl rfl (by first | exact True.intro | omega | exact sd) ?_ | refine AWk_step0 hT rfl (by first | exact True.intro | omega | exact sd) ?_ | refine AWd_nil ?_ | refine AWk_nil ?_ | refine AWd_gstep hT rfl rfl rfl rfl rfl (by intro hg; first | exact ⟨True.intro, True.intro⟩ | exact sg hg) ?_ | refine AWk_gstep hT rfl rfl rfl rfl (by intro hg; first | exact ⟨True.intro, True.intro⟩ | exact sg hg) ?_ | refine AW_seq ?_ | refine AW_region ?_ | refine AW_draw mixed (by kernel_rfl) ?_ | refine AW_block ?_ | refine AW_skip ?_ | refine AW_exit ?_ | refine AW_ret ?_)
    refine AWk_op (OpS_of_pure (indexAddr_ok hT rfl rfl rfl rfl (by omega) hel)) rfl ?_
    repeat (first | refine AWd_step hT rfl rfl rfl (by first | exact True.intro | omega | exact sd) ?_ | refine AWk_step hT rfl rfl (by first | exact True.intro | omega | exact sd) ?_ | refine AWk_step0 hT rfl (by first | exact True.intro | omega | exact sd) ?_ | refine AWd_nil ?_ | refine AWk_nil ?_ | refine AWd_gstep hT rfl rfl rfl rfl rfl (by intro hg; first | exact ⟨True.intro, True.intro⟩ | exact sg hg) ?_ | refine AWk_gstep hT rfl rfl rfl rfl (by intro hg; first | exact ⟨True.intro, True.intro⟩ | exact sg hg) ?_ | refine AW_seq ?_ | refine AW_region ?_ | refine AW_draw mixed (by kernel_rfl) ?_ | refine AW_block ?_ | refine AW_skip ?_ | refine AW_exit ?_ | refine AW_ret ?_)
    refine AWk_op (callS0 rfl rfl hrec rfl rfl rfl) rfl ?_
    repeat (first | refine AWd_step hT rfl rfl rfl (by first | exact True.intro | omega | exact sd) ?_ | refine AWk_step hT rfl rfl (by first | exact True.intro | omega | exact sd) ?_ | refine AWk_step0 hT rfl (by first | exact True.intro | omega | exact sd) ?_ | refine AWd_nil ?_ | refine AWk_nil ?_ | refine AWd_gstep hT rfl rfl rfl rfl rfl (by intro hg; first | exact ⟨True.intro, True.intro⟩ | exact sg hg) ?_ | refine AWk_gstep hT rfl rfl rfl rfl (by intro hg; first | exact ⟨True.intro, True.intro⟩ | exact sg hg) ?_ | refine AW_seq ?_ | refine AW_region ?_ | refine AW_draw mixed (by kernel_rfl) ?_ | refine AW_block ?_ | refine AW_skip ?_ | refine AW_exit ?_ | refine AW_ret ?_)
    exact ⟨(i + 1, c + (1 + ck)), ⟨by simp only; omega, by simp only; omega, hg⟩, by simp only; omega, ⟨.refl _, .refl _, AV.le.eq (by show AV.d (.int .i64 (IntKind.i64.wrap ((c : Int) + IntKind.i64.wrap (1 + (ck : Int))))) = _; rw [hw2]), AV.le.eq (by show AV.d (.int .i64 (IntKind.i64.wrap ((i : Int) + 1))) = _; rw [hwr]), trivial⟩, HLe.refl _⟩
  · have h1' : ¬ (i < l.length ∧ c ≤ most) := by rw [hlen] at h1; simp at h1; omega
    have hce : c = fin := by
      by_cases h2 : i < l.length
      · have hdrop : l.drop i = l[i] :: l.drop (i + 1) := by simp
        rw [hdrop, cntL, if_neg (by omega)] at hg
        exact hg
      · have : i = l.length := by omega
        subst this
        rw [List.drop_length, cntL] at hg
        exact hg
    subst hce
    repeat (first | refine AWd_step hT rfl rfl rfl (by first | exact True.intro | omega | exact sd) ?_ | refine AWk_step hT rfl rfl (by first | exact True.intro | omega | exact sd) ?_ | refine AWk_step0 hT rfl (by first | exact True.intro | omega | exact sd) ?_ | refine AWd_nil ?_ | refine AWk_nil ?_ | refine AWd_gstep hT rfl rfl rfl rfl rfl (by intro hg; first | exact ⟨True.intro, True.intro⟩ | exact sg hg) ?_ | refine AWk_gstep hT rfl rfl rfl rfl (by intro hg; first | exact ⟨True.intro, True.intro⟩ | exact sg hg) ?_ | refine AW_seq ?_ | refine AW_region ?_ | refine AW_draw mixed (by kernel_rfl) ?_ | refine AW_block ?_ | refine AW_skip ?_ | refine AW_exit ?_ | refine AW_ret ?_)
    exact ret_exact rfl (.refl _) rfl rfl rfl rfl ⟨rfl, rfl⟩
end Tdoc
