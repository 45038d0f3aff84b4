/- The reference's raw writing and its Encode; Prim and Cons. -/
import Derived.Test.YtkkfcpohiofinaaDoorE9
set_option linter.unusedVariables false
set_option linter.unusedSimpArgs false
namespace Tdoc
open Go Go.Proofs

theorem rawL_drop_le {l : List Node} {out : List UInt8} (h : out.length ≤ 8198) : (rawL l out).length ≤ 8198 := rawL_le l out h
theorem cap4_encB (c : List UInt8) (h : 4096 < c.length) : (encB c).take 4097 = encB (cap4 c) := by unfold cap4; rw [if_pos h, encB_take]

set_option maxHeartbeats 8000000 in
set_option maxRecDepth 100000 in
theorem raw_spec : ∀ (n : Nat) (l : List Node), sizeL l ≤ n → tagsL l → l.length ≤ 1000000000 → fitL l →
    Spec Tryd.prog 43 [.d (.sl 3 (encNs l))] [] (fun r h' => r = .d (.sl 1 (encB (rawL l []))) ∧ h' = []) := by
  intro n
  induction n using Nat.strongRecOn with
  | _ n ih =>
  intro l hsz htg hl hf
  have hlen := encNs_length l
  generalize hfin : rawL l [] = fin
  refine Spec_of_body hT Tryd.func43 rfl rfl rfl rfl ?_
  intro E hE
  refine AW_room ?_
  refine AW_seq (AW_region ?_)
  repeat (first | refine AWd_step hT rfl rfl rfl (by first | exact True.intro | omega | exact sd) ?_ | refine AWk_step hT rfl rfl (by first | exact True.intro | omega | exact sd) ?_ | refine AWk_step0 hT rfl (by first | exact True.intro | omega | exact sd) ?_ | refine AWd_nil ?_ | refine AWk_nil ?_ | refine AWd_gstep hT rfl rfl rfl rfl rfl (by intro hg; first | exact ⟨True.intro, True.intro⟩ | exact sg hg) ?_ | refine AWk_gstep hT rfl rfl rfl rfl (by intro hg; first | exact ⟨True.intro, True.intro⟩ | exact sg hg) ?_)
  refine AW_seq (AW_region ?_)
  repeat (first | refine AWd_step hT rfl rfl rfl (by first | exact True.intro | omega | exact sd) ?_ | refine AWk_step hT rfl rfl (by first | exact True.intro | omega | exact sd) ?_ | refine AWk_step0 hT rfl (by first | exact True.intro | omega | exact sd) ?_ | refine AWd_nil ?_ | refine AWk_nil ?_ | refine AWd_gstep hT rfl rfl rfl rfl rfl (by intro hg; first | exact ⟨True.intro, True.intro⟩ | exact sg hg) ?_ | refine AWk_gstep hT rfl rfl rfl rfl (by intro hg; first | exact ⟨True.intro, True.intro⟩ | exact sg hg) ?_)
  refine AW_acquireAt 3 1 0 (es := []) (.inr ⟨rfl, rfl⟩) rfl ?_
  repeat (first | refine AWd_step hT rfl rfl rfl (by first | exact True.intro | omega | exact sd) ?_ | refine AWk_step hT rfl rfl (by first | exact True.intro | omega | exact sd) ?_ | refine AWk_step0 hT rfl (by first | exact True.intro | omega | exact sd) ?_ | refine AWd_nil ?_ | refine AWk_nil ?_ | refine AWd_gstep hT rfl rfl rfl rfl rfl (by intro hg; first | exact ⟨True.intro, True.intro⟩ | exact sg hg) ?_ | refine AWk_gstep hT rfl rfl rfl rfl (by intro hg; first | exact ⟨True.intro, True.intro⟩ | exact sg hg) ?_ | refine AW_seq ?_ | refine AW_region ?_ | refine AW_draw mixed (by kernel_rfl) ?_ | refine AW_block ?_ | refine AW_skip ?_ | refine AW_exit ?_ | refine AW_ret ?_)
  refine AW_loopL (ι := Nat × List UInt8) (fun x => [(3, .sl 1 (encB x.2) (.right 0)), (0, .d (.sl 3 (encNs l))), (4, .d (.int .i64 (x.1 : Int)))]) (fun x => [.right 1 (encB x.2).length])
    (fun x => x.1 ≤ l.length ∧ x.2.length ≤ 8198 ∧ rawL (l.drop x.1) x.2 = fin) (fun x => l.length - x.1) (0, []) ⟨by simp, by simp, by simpa using hfin⟩ ⟨.refl _, .refl _, .refl _, trivial⟩ (HLe.refl _) ?_
  rintro ⟨i, out⟩ ⟨hi, hob, hg⟩
  simp only at hi hob hg ⊢
  have hwr : IntKind.i64.wrap ((i : Int) + 1) = ((i + 1 : Nat) : Int) := by rw [wrap_id (by omega)]; simp
  have hol := encB_length out
  repeat (first | refine AWd_step hT rfl rfl rfl (by first | exact True.intro | omega | exact sd) ?_ | refine AWk_step hT rfl rfl (by first | exact True.intro | omega | exact sd) ?_ | refine AWk_step0 hT rfl (by first | exact True.intro | omega | exact sd) ?_ | refine AWd_nil ?_ | refine AWk_nil ?_ | refine AWd_gstep hT rfl rfl rfl rfl rfl (by intro hg; first | exact ⟨True.intro, True.intro⟩ | exact sg hg) ?_ | refine AWk_gstep hT rfl rfl rfl rfl (by intro hg; first | exact ⟨True.intro, True.intro⟩ | exact sg hg) ?_ | refine AW_seq ?_ | refine AW_region ?_ | refine AW_draw mixed (by kernel_rfl) ?_ | refine AW_block ?_ | refine AW_skip ?_ | refine AW_exit ?_ | refine AW_ret ?_)
  refine AW_condL rfl (fun h1 => ?_) (fun h1 => ?_)
  · have h1' : i < l.length ∧ out.length ≤ 4096 := by rw [hlen, hol] at h1; simp at h1; omega
    have hlt := h1'.1
    have hdrop : l.drop i = l[i] :: l.drop (i + 1) := by simp
    have hel : (encNs l)[((i : Int)).toNat]? = some (encN l[i]) := by simp [encNs_eq, hlt]
    have hmem : l[i] ∈ l := List.getElem_mem hlt
    have hsm := sizeN_mem hmem
    have htm := tagsL_at htg _ hmem
    have hfm := fitL_at hf _ hmem
    have hrn := rawN_le l[i]
    rw [hdrop, rawL, if_pos h1'.2] at hg
    generalize l[i] = x at hel hsm htm hfm hg hrn
    obtain ⟨t, v, k⟩ := x
    rw [encN] at hel
    rw [sizeN] at hsm
    have htr := tagOk_range htm.1
    obtain ⟨tn, rfl⟩ := Int.eq_ofNat_of_zero_le (show 0 ≤ t by omega)
    have hcon := ConstructedR_spec (tn : Int) (by omega)
    have hrec : Spec Tryd.prog 43 [.d (.sl 3 (encNs k))] [] (fun r h' => r = .d (.sl 1 (encB (rawL k []))) ∧ h' = []) := ih (sizeL k) (by omega) k (Nat.le_refl _) htm.2 hfm.2.2.1 hfm.2.2.2
    rw [rawN] at hg hrn
    have hkb := rawL_le k [] (by simp)
    generalize tagCons (tn : Int) = con at hcon hg hrn
    generalize rawL k [] = rk at hrec hg hrn hkb
    generalize hc : (if con = true then rk else v) = c at hg hrn
    have hcl := cap4_le c
    have hll := encB_length (cap4 c)
    have hlsp : Spec Tryd.prog 54 [.d (.int .i64 ((encB (cap4 c)).length : Int))] [] (fun r h' => r = .d (.sl 1 (encB (lenR (cap4 c).length))) ∧ h' = []) := by rw [hll]; exact lengthR_spec (cap4 c).length (by omega)
    have hlo : IntKind.u8.wrap (tn : Int) = ((UInt8.ofNat (tn % 256)).toNat : Int) := by rw [wrapu8_mod, toNat_ofNat (Nat.mod_lt _ (by omega))]; simp
    have hshr : Int.fdiv (tn : Int) (2 ^ (min (8 : Int).toNat IntKind.i64.bits)) = ((tn / 256 : Nat) : Int) := shr_nat tn 8
    have hhi : IntKind.u8.wrap (Int.fdiv (tn : Int) (2 ^ (min (8 : Int).toNat IntKind.i64.bits))) = ((UInt8.ofNat (tn / 256 % 256)).toNat : Int) := by rw [hshr, wrapu8_mod, toNat_ofNat (Nat.mod_lt _ (by omega))]; simp
    generalize hhd : (if tn > 255 then [UInt8.ofNat (tn / 256 % 256)] else []) = hd
    have htb : tagB (tn : Int) = hd ++ [UInt8.ofNat (tn % 256)] := by
      have e1 : ((tn : Int) / 256 % 256).toNat = tn / 256 % 256 := by omega
      have e2 : ((tn : Int) % 256).toNat = tn % 256 := by omega
      unfold tagB
      rw [e1, e2, ← hhd]
      by_cases h9 : tn > 255
      · rw [if_pos (by omega), if_pos h9]; rfl
      · rw [if_neg (by omega), if_neg h9]; rfl
    rw [htb] at hg hrn
    simp only [List.length_append, List.length_singleton] at hrn
    refine AW_skip ?_
    refine AW_seq (AW_block (AW_seq (AW_region ?_)))
    repeat (first | refine AWd_step hT rfl rfl rfl (by first | exact True.intro | omega | exact sd) ?_ | refine AWk_step hT rfl rfl (by first | exact True.intro | omega | exact sd) ?_ | refine AWk_step0 hT rfl (by first | exact True.intro | omega | exact sd) ?_ | refine AWd_nil ?_ | refine AWk_nil ?_ | refine AWd_gstep hT rfl rfl rfl rfl rfl (by intro hg; first | exact ⟨True.intro, True.intro⟩ | exact sg hg) ?_ | refine AWk_gstep hT rfl rfl rfl rfl (by intro hg; first | exact ⟨True.intro, True.intro⟩ | exact sg hg) ?_)
    refine AWk_op (OpS_of_pure (indexAddr_ok hT rfl rfl rfl rfl (by omega) hel)) rfl ?_
    repeat (first | refine AWd_step hT rfl rfl rfl (by first | exact True.intro | omega | exact sd) ?_ | refine AWk_step hT rfl rfl (by first | exact True.intro | omega | exact sd) ?_ | refine AWk_step0 hT rfl (by first | exact True.intro | omega | exact sd) ?_ | refine AWd_nil ?_ | refine AWk_nil ?_ | refine AWd_gstep hT rfl rfl rfl rfl rfl (by intro hg; first | exact ⟨True.intro, True.intro⟩ | exact sg hg) ?_ | refine AWk_gstep hT rfl rfl rfl rfl (by intro hg; first | exact ⟨True.intro, True.intro⟩ | exact sg hg) ?_)
    refine AW_seq_cut (ι := Unit) (fun _ => [(3, .sl 1 (encB out) (.right 0)), (0, .d (.sl 3 (encNs l))), (4, .d (.int .i64 (i : Int))), (5, .d (.sl 1 (encB c)))])
      (fun _ => [.right 1 (encB out).length]) (fun _ => True) ?_ (fun _ _ => ?_)
    · repeat (first | refine AWd_step hT rfl rfl rfl (by first | exact True.intro | omega | exact sd) ?_ | refine AWk_step hT rfl rfl (by first | exact True.intro | omega | exact sd) ?_ | refine AWk_step0 hT rfl (by first | exact True.intro | omega | exact sd) ?_ | refine AWd_nil ?_ | refine AWk_nil ?_ | refine AWd_gstep hT rfl rfl rfl rfl rfl (by intro hg; first | exact ⟨True.intro, True.intro⟩ | exact sg hg) ?_ | refine AWk_gstep hT rfl rfl rfl rfl (by intro hg; first | exact ⟨True.intro, True.intro⟩ | exact sg hg) ?_ | refine AW_seq ?_ | refine AW_region ?_ | refine AW_draw mixed (by kernel_rfl) ?_ | refine AW_block ?_ | refine AW_skip ?_ | refine AW_exit ?_ | refine AW_ret ?_)
      refine AWk_op (OpS_of_pure (indexAddr_ok hT rfl rfl rfl rfl (by omega) hel)) rfl ?_
      repeat (first | refine AWd_step hT rfl rfl rfl (by first | exact True.intro | omega | exact sd) ?_ | refine AWk_step hT rfl rfl (by first | exact True.intro | omega | exact sd) ?_ | refine AWk_step0 hT rfl (by first | exact True.intro | omega | exact sd) ?_ | refine AWd_nil ?_ | refine AWk_nil ?_ | refine AWd_gstep hT rfl rfl rfl rfl rfl (by intro hg; first | exact ⟨True.intro, True.intro⟩ | exact sg hg) ?_ | refine AWk_gstep hT rfl rfl rfl rfl (by intro hg; first | exact ⟨True.intro, True.intro⟩ | exact sg hg) ?_)
      refine AWk_op (callS0 rfl rfl hcon rfl rfl rfl) rfl ?_
      repeat (first | refine AWd_step hT rfl rfl rfl (by first | exact True.intro | omega | exact sd) ?_ | refine AWk_step hT rfl rfl (by first | exact True.intro | omega | exact sd) ?_ | refine AWk_step0 hT rfl (by first | exact True.intro | omega | exact sd) ?_ | refine AWd_nil ?_ | refine AWk_nil ?_ | refine AWd_gstep hT rfl rfl rfl rfl rfl (by intro hg; first | exact ⟨True.intro, True.intro⟩ | exact sg hg) ?_ | refine AWk_gstep hT rfl rfl rfl rfl (by intro hg; first | exact ⟨True.intro, True.intro⟩ | exact sg hg) ?_)
      refine AW_condL rfl (fun h2 => ?_) (fun h2 => ?_)
      · repeat (first | refine AWd_step hT rfl rfl rfl (by first | exact True.intro | omega | exact sd) ?_ | refine AWk_step hT rfl rfl (by first | exact True.intro | omega | exact sd) ?_ | refine AWk_step0 hT rfl (by first | exact True.intro | omega | exact sd) ?_ | refine AWd_nil ?_ | refine AWk_nil ?_ | refine AWd_gstep hT rfl rfl rfl rfl rfl (by intro hg; first | exact ⟨True.intro, True.intro⟩ | exact sg hg) ?_ | refine AWk_gstep hT rfl rfl rfl rfl (by intro hg; first | exact ⟨True.intro, True.intro⟩ | exact sg hg) ?_ | refine AW_seq ?_ | refine AW_region ?_ | refine AW_draw mixed (by kernel_rfl) ?_ | refine AW_block ?_ | refine AW_skip ?_ | refine AW_exit ?_ | refine AW_ret ?_)
        refine AWk_op (OpS_of_pure (indexAddr_ok hT rfl rfl rfl rfl (by omega) hel)) rfl ?_
        repeat (first | refine AWd_step hT rfl rfl rfl (by first | exact True.intro | omega | exact sd) ?_ | refine AWk_step hT rfl rfl (by first | exact True.intro | omega | exact sd) ?_ | refine AWk_step0 hT rfl (by first | exact True.intro | omega | exact sd) ?_ | refine AWd_nil ?_ | refine AWk_nil ?_ | refine AWd_gstep hT rfl rfl rfl rfl rfl (by intro hg; first | exact ⟨True.intro, True.intro⟩ | exact sg hg) ?_ | refine AWk_gstep hT rfl rfl rfl rfl (by intro hg; first | exact ⟨True.intro, True.intro⟩ | exact sg hg) ?_)
        refine AWk_op (callS0 rfl rfl hrec rfl rfl rfl) rfl ?_
        repeat (first | refine AWd_step hT rfl rfl rfl (by first | exact True.intro | omega | exact sd) ?_ | refine AWk_step hT rfl rfl (by first | exact True.intro | omega | exact sd) ?_ | refine AWk_step0 hT rfl (by first | exact True.intro | omega | exact sd) ?_ | refine AWd_nil ?_ | refine AWk_nil ?_ | refine AWd_gstep hT rfl rfl rfl rfl rfl (by intro hg; first | exact ⟨True.intro, True.intro⟩ | exact sg hg) ?_ | refine AWk_gstep hT rfl rfl rfl rfl (by intro hg; first | exact ⟨True.intro, True.intro⟩ | exact sg hg) ?_ | refine AW_seq ?_ | refine AW_region ?_ | refine AW_draw mixed (by kernel_rfl) ?_ | refine AW_block ?_ | refine AW_skip ?_ | refine AW_exit ?_ | refine AW_ret ?_)
        exact ⟨(), trivial, ⟨.refl _, .refl _, .refl _, AV.le.eq (by rw [← hc, if_pos h2]; rfl), trivial⟩, HLe.refl _⟩
      · have h2' : ¬ con = true := by simp [h2]
        repeat (first | refine AWd_step hT rfl rfl rfl (by first | exact True.intro | omega | exact sd) ?_ | refine AWk_step hT rfl rfl (by first | exact True.intro | omega | exact sd) ?_ | refine AWk_step0 hT rfl (by first | exact True.intro | omega | exact sd) ?_ | refine AWd_nil ?_ | refine AWk_nil ?_ | refine AWd_gstep hT rfl rfl rfl rfl rfl (by intro hg; first | exact ⟨True.intro, True.intro⟩ | exact sg hg) ?_ | refine AWk_gstep hT rfl rfl rfl rfl (by intro hg; first | exact ⟨True.intro, True.intro⟩ | exact sg hg) ?_ | refine AW_seq ?_ | refine AW_region ?_ | refine AW_draw mixed (by kernel_rfl) ?_ | refine AW_block ?_ | refine AW_skip ?_ | refine AW_exit ?_ | refine AW_ret ?_)
        exact ⟨(), trivial, ⟨.refl _, .refl _, .refl _, AV.le.eq (by rw [← hc, if_neg h2']; rfl), trivial⟩, HLe.refl _⟩
    refine AW_seq_cut (ι := Unit) (fun _ => [(3, .sl 1 (encB (out ++ hd)) (.right 0)), (0, .d (.sl 3 (encNs l))), (4, .d (.int .i64 (i : Int))), (5, .d (.sl 1 (encB c)))])
      (fun _ => [.right 1 (encB (out ++ hd)).length]) (fun _ => True) ?_ (fun _ _ => ?_)
    · repeat (first | refine AWd_step hT rfl rfl rfl (by first | exact True.intro | omega | exact sd) ?_ | refine AWk_step hT rfl rfl (by first | exact True.intro | omega | exact sd) ?_ | refine AWk_step0 hT rfl (by first | exact True.intro | omega | exact sd) ?_ | refine AWd_nil ?_ | refine AWk_nil ?_ | refine AWd_gstep hT rfl rfl rfl rfl rfl (by intro hg; first | exact ⟨True.intro, True.intro⟩ | exact sg hg) ?_ | refine AWk_gstep hT rfl rfl rfl rfl (by intro hg; first | exact ⟨True.intro, True.intro⟩ | exact sg hg) ?_ | refine AW_seq ?_ | refine AW_region ?_ | refine AW_draw mixed (by kernel_rfl) ?_ | refine AW_block ?_ | refine AW_skip ?_ | refine AW_exit ?_ | refine AW_ret ?_)
      refine AWk_op (OpS_of_pure (indexAddr_ok hT rfl rfl rfl rfl (by omega) hel)) rfl ?_
      repeat (first | refine AWd_step hT rfl rfl rfl (by first | exact True.intro | omega | exact sd) ?_ | refine AWk_step hT rfl rfl (by first | exact True.intro | omega | exact sd) ?_ | refine AWk_step0 hT rfl (by first | exact True.intro | omega | exact sd) ?_ | refine AWd_nil ?_ | refine AWk_nil ?_ | refine AWd_gstep hT rfl rfl rfl rfl rfl (by intro hg; first | exact ⟨True.intro, True.intro⟩ | exact sg hg) ?_ | refine AWk_gstep hT rfl rfl rfl rfl (by intro hg; first | exact ⟨True.intro, True.intro⟩ | exact sg hg) ?_)
      refine AW_condL rfl (fun h2 => ?_) (fun h2 => ?_)
      · have h2' : tn > 255 := by simp at h2; omega
        rw [if_pos h2'] at hhd
        subst hhd
        repeat (first | refine AWd_step hT rfl rfl rfl (by first | exact True.intro | omega | exact sd) ?_ | refine AWk_step hT rfl rfl (by first | exact True.intro | omega | exact sd) ?_ | refine AWk_step0 hT rfl (by first | exact True.intro | omega | exact sd) ?_ | refine AWd_nil ?_ | refine AWk_nil ?_ | refine AWd_gstep hT rfl rfl rfl rfl rfl (by intro hg; first | exact ⟨True.intro, True.intro⟩ | exact sg hg) ?_ | refine AWk_gstep hT rfl rfl rfl rfl (by intro hg; first | exact ⟨True.intro, True.intro⟩ | exact sg hg) ?_ | refine AW_seq ?_ | refine AW_region ?_ | refine AW_draw mixed (by kernel_rfl) ?_ | refine AW_block ?_ | refine AW_skip ?_ | refine AW_exit ?_ | refine AW_ret ?_)
        refine AWk_op (OpS_of_pure (indexAddr_ok hT rfl rfl rfl rfl (by omega) hel)) rfl ?_
        repeat (first | refine AWd_step hT rfl rfl rfl (by first | exact True.intro | omega | exact sd) ?_ | refine AWk_step hT rfl rfl (by first | exact True.intro | omega | exact sd) ?_ | refine AWk_step0 hT rfl (by first | exact True.intro | omega | exact sd) ?_ | refine AWd_nil ?_ | refine AWk_nil ?_ | refine AWd_gstep hT rfl rfl rfl rfl rfl (by intro hg; first | exact ⟨True.intro, True.intro⟩ | exact sg hg) ?_ | refine AWk_gstep hT rfl rfl rfl rfl (by intro hg; first | exact ⟨True.intro, True.intro⟩ | exact sg hg) ?_)
        refine AWk_op (append_rightL (i := 0) hT rfl rfl rfl rfl rfl rfl (by show ((encB out).length + 1) * (1 + 1) ≤ _; rw [encB_length]; omega)) rfl ?_
        repeat (first | refine AWd_step hT rfl rfl rfl (by first | exact True.intro | omega | exact sd) ?_ | refine AWk_step hT rfl rfl (by first | exact True.intro | omega | exact sd) ?_ | refine AWk_step0 hT rfl (by first | exact True.intro | omega | exact sd) ?_ | refine AWd_nil ?_ | refine AWk_nil ?_ | refine AWd_gstep hT rfl rfl rfl rfl rfl (by intro hg; first | exact ⟨True.intro, True.intro⟩ | exact sg hg) ?_ | refine AWk_gstep hT rfl rfl rfl rfl (by intro hg; first | exact ⟨True.intro, True.intro⟩ | exact sg hg) ?_ | refine AW_seq ?_ | refine AW_region ?_ | refine AW_draw mixed (by kernel_rfl) ?_ | refine AW_block ?_ | refine AW_skip ?_ | refine AW_exit ?_ | refine AW_ret ?_)
        refine ⟨(), trivial, ⟨AV.le.eq ?_, .refl _, .refl _, .refl _, trivial⟩, ⟨⟨rfl, ?_⟩, trivial⟩⟩
        · show AV.sl 1 (encB out ++ [[.int .u8 (IntKind.u8.wrap (Int.fdiv (tn : Int) (2 ^ (min (8 : Int).toNat IntKind.i64.bits))))]]) (.right 0) = _
          rw [hhi, encB_append]; rfl
        · show (encB out ++ [[Dat.int .u8 (IntKind.u8.wrap (Int.fdiv (tn : Int) (2 ^ (min (8 : Int).toNat IntKind.i64.bits))))]]).length = _
          rw [hhi, encB_append]; rfl
      · have h2' : ¬ tn > 255 := by simp at h2; omega
        rw [if_neg h2'] at hhd
        subst hhd
        repeat (first | refine AWd_step hT rfl rfl rfl (by first | exact True.intro | omega | exact sd) ?_ | refine AWk_step hT rfl rfl (by first | exact True.intro | omega | exact sd) ?_ | refine AWk_step0 hT rfl (by first | exact True.intro | omega | exact sd) ?_ | refine AWd_nil ?_ | refine AWk_nil ?_ | refine AWd_gstep hT rfl rfl rfl rfl rfl (by intro hg; first | exact ⟨True.intro, True.intro⟩ | exact sg hg) ?_ | refine AWk_gstep hT rfl rfl rfl rfl (by intro hg; first | exact ⟨True.intro, True.intro⟩ | exact sg hg) ?_ | refine AW_seq ?_ | refine AW_region ?_ | refine AW_draw mixed (by kernel_rfl) ?_ | refine AW_block ?_ | refine AW_skip ?_ | refine AW_exit ?_ | refine AW_ret ?_)
        refine ⟨(), trivial, ⟨AV.le.eq (by rw [List.append_nil]; rfl), .refl _, .refl _, .refl _, trivial⟩, ⟨⟨rfl, by rw [List.append_nil]⟩, trivial⟩⟩
    have hol2 := encB_length (out ++ hd)
    rw [List.length_append] at hol2
    have hlbl := encB_length (lenR (cap4 c).length)
    repeat (first | refine AWd_step hT rfl rfl rfl (by first | exact True.intro | omega | exact sd) ?_ | refine AWk_step hT rfl rfl (by first | exact True.intro | omega | exact sd) ?_ | refine AWk_step0 hT rfl (by first | exact True.intro | omega | exact sd) ?_ | refine AWd_nil ?_ | refine AWk_nil ?_ | refine AWd_gstep hT rfl rfl rfl rfl rfl (by intro hg; first | exact ⟨True.intro, True.intro⟩ | exact sg hg) ?_ | refine AWk_gstep hT rfl rfl rfl rfl (by intro hg; first | exact ⟨True.intro, True.intro⟩ | exact sg hg) ?_ | refine AW_seq ?_ | refine AW_region ?_ | refine AW_draw mixed (by kernel_rfl) ?_ | refine AW_block ?_ | refine AW_skip ?_ | refine AW_exit ?_ | refine AW_ret ?_)
    refine AWk_op (OpS_of_pure (indexAddr_ok hT rfl rfl rfl rfl (by omega) hel)) rfl ?_
    repeat (first | refine AWd_step hT rfl rfl rfl (by first | exact True.intro | omega | exact sd) ?_ | refine AWk_step hT rfl rfl (by first | exact True.intro | omega | exact sd) ?_ | refine AWk_step0 hT rfl (by first | exact True.intro | omega | exact sd) ?_ | refine AWd_nil ?_ | refine AWk_nil ?_ | refine AWd_gstep hT rfl rfl rfl rfl rfl (by intro hg; first | exact ⟨True.intro, True.intro⟩ | exact sg hg) ?_ | refine AWk_gstep hT rfl rfl rfl rfl (by intro hg; first | exact ⟨True.intro, True.intro⟩ | exact sg hg) ?_)
    refine AWk_op (append_rightL (i := 0) hT rfl rfl rfl rfl rfl rfl (by show ((encB (out ++ hd)).length + 1) * (1 + 1) ≤ _; omega)) rfl ?_
    repeat (first | refine AWd_step hT rfl rfl rfl (by first | exact True.intro | omega | exact sd) ?_ | refine AWk_step hT rfl rfl (by first | exact True.intro | omega | exact sd) ?_ | refine AWk_step0 hT rfl (by first | exact True.intro | omega | exact sd) ?_ | refine AWd_nil ?_ | refine AWk_nil ?_ | refine AWd_gstep hT rfl rfl rfl rfl rfl (by intro hg; first | exact ⟨True.intro, True.intro⟩ | exact sg hg) ?_ | refine AWk_gstep hT rfl rfl rfl rfl (by intro hg; first | exact ⟨True.intro, True.intro⟩ | exact sg hg) ?_)
    refine AW_seq_cut (ι := Unit) (fun _ => [(3, .sl 1 (encB (out ++ hd) ++ [[Dat.int .u8 (IntKind.u8.wrap (tn : Int))]]) (.right 0)), (0, .d (.sl 3 (encNs l))), (4, .d (.int .i64 (i : Int))), (5, .d (.sl 1 (encB (cap4 c))))])
      (fun _ => [.right 1 (encB (out ++ hd) ++ [[Dat.int .u8 (IntKind.u8.wrap (tn : Int))]]).length]) (fun _ => True) ?_ (fun _ _ => ?_)
    · have hcb := encB_length c
      repeat (first | refine AWd_step hT rfl rfl rfl (by first | exact True.intro | omega | exact sd) ?_ | refine AWk_step hT rfl rfl (by first | exact True.intro | omega | exact sd) ?_ | refine AWk_step0 hT rfl (by first | exact True.intro | omega | exact sd) ?_ | refine AWd_nil ?_ | refine AWk_nil ?_ | refine AWd_gstep hT rfl rfl rfl rfl rfl (by intro hg; first | exact ⟨True.intro, True.intro⟩ | exact sg hg) ?_ | refine AWk_gstep hT rfl rfl rfl rfl (by intro hg; first | exact ⟨True.intro, True.intro⟩ | exact sg hg) ?_ | refine AW_seq ?_ | refine AW_region ?_ | refine AW_draw mixed (by kernel_rfl) ?_ | refine AW_block ?_ | refine AW_skip ?_ | refine AW_exit ?_ | refine AW_ret ?_)
      refine AW_condL rfl (fun h2 => ?_) (fun h2 => ?_)
      · have h2' : 4096 < c.length := by rw [hcb] at h2; simp at h2; omega
        repeat (first | refine AWd_step hT rfl rfl rfl (by first | exact True.intro | omega | exact sd) ?_ | refine AWk_step hT rfl rfl (by first | exact True.intro | omega | exact sd) ?_ | refine AWk_step0 hT rfl (by first | exact True.intro | omega | exact sd) ?_ | refine AWd_nil ?_ | refine AWk_nil ?_ | refine AWd_gstep hT rfl rfl rfl rfl rfl (by intro hg; first | exact ⟨True.intro, True.intro⟩ | exact sg hg) ?_ | refine AWk_gstep hT rfl rfl rfl rfl (by intro hg; first | exact ⟨True.intro, True.intro⟩ | exact sg hg) ?_ | refine AW_seq ?_ | refine AW_region ?_ | refine AW_draw mixed (by kernel_rfl) ?_ | refine AW_block ?_ | refine AW_skip ?_ | refine AW_exit ?_ | refine AW_ret ?_)
        exact ⟨(), trivial, ⟨.refl _, .refl _, .refl _, AV.le.eq (by show AV.d (.sl 1 ((encB c).take 4097)) = _; rw [cap4_encB c h2']), trivial⟩, HLe.refl _⟩
      · have h2' : ¬ c.length > 4096 := by rw [hcb] at h2; simp at h2; omega
        repeat (first | refine AWd_step hT rfl rfl rfl (by first | exact True.intro | omega | exact sd) ?_ | refine AWk_step hT rfl rfl (by first | exact True.intro | omega | exact sd) ?_ | refine AWk_step0 hT rfl (by first | exact True.intro | omega | exact sd) ?_ | refine AWd_nil ?_ | refine AWk_nil ?_ | refine AWd_gstep hT rfl rfl rfl rfl rfl (by intro hg; first | exact ⟨True.intro, True.intro⟩ | exact sg hg) ?_ | refine AWk_gstep hT rfl rfl rfl rfl (by intro hg; first | exact ⟨True.intro, True.intro⟩ | exact sg hg) ?_ | refine AW_seq ?_ | refine AW_region ?_ | refine AW_draw mixed (by kernel_rfl) ?_ | refine AW_block ?_ | refine AW_skip ?_ | refine AW_exit ?_ | refine AW_ret ?_)
        exact ⟨(), trivial, ⟨.refl _, .refl _, .refl _, AV.le.eq (by unfold cap4; rw [if_neg h2']; rfl), trivial⟩, HLe.refl _⟩
    repeat (first | refine AWd_step hT rfl rfl rfl (by first | exact True.intro | omega | exact sd) ?_ | refine AWk_step hT rfl rfl (by first | exact True.intro | omega | exact sd) ?_ | refine AWk_step0 hT rfl (by first | exact True.intro | omega | exact sd) ?_ | refine AWd_nil ?_ | refine AWk_nil ?_ | refine AWd_gstep hT rfl rfl rfl rfl rfl (by intro hg; first | exact ⟨True.intro, True.intro⟩ | exact sg hg) ?_ | refine AWk_gstep hT rfl rfl rfl rfl (by intro hg; first | exact ⟨True.intro, True.intro⟩ | exact sg hg) ?_ | refine AW_seq ?_ | refine AW_region ?_ | refine AW_draw mixed (by kernel_rfl) ?_ | refine AW_block ?_ | refine AW_skip ?_ | refine AW_exit ?_ | refine AW_ret ?_)
    refine AWk_op (callS0 rfl rfl hlsp rfl rfl rfl) rfl ?_
    refine AWk_op (append_rightL (i := 0) hT rfl rfl rfl rfl rfl rfl (by show ((encB (out ++ hd) ++ [[Dat.int .u8 (IntKind.u8.wrap (tn : Int))]]).length + (encB (lenR (cap4 c).length)).length) * (1 + 1) ≤ _; rw [List.length_append, List.length_singleton]; omega)) rfl ?_
    repeat (first | refine AWd_step hT rfl rfl rfl (by first | exact True.intro | omega | exact sd) ?_ | refine AWk_step hT rfl rfl (by first | exact True.intro | omega | exact sd) ?_ | refine AWk_step0 hT rfl (by first | exact True.intro | omega | exact sd) ?_ | refine AWd_nil ?_ | refine AWk_nil ?_ | refine AWd_gstep hT rfl rfl rfl rfl rfl (by intro hg; first | exact ⟨True.intro, True.intro⟩ | exact sg hg) ?_ | refine AWk_gstep hT rfl rfl rfl rfl (by intro hg; first | exact ⟨True.intro, True.intro⟩ | exact sg hg) ?_ | refine AW_seq ?_ | refine AW_region ?_ | refine AW_draw mixed (by kernel_rfl) ?_ | refine AW_block ?_ | refine AW_skip ?_ | refine AW_exit ?_ | refine AW_ret ?_)
    refine AWk_op (append_rightL (i := 0) hT rfl rfl rfl rfl rfl rfl (by show ((encB (out ++ hd) ++ [[Dat.int .u8 (IntKind.u8.wrap (tn : Int))]] ++ encB (lenR (cap4 c).length)).length + (encB (cap4 c)).length) * (1 + 1) ≤ _; rw [List.length_append, List.length_append, List.length_singleton]; omega)) rfl ?_
    repeat (first | refine AWd_step hT rfl rfl rfl (by first | exact True.intro | omega | exact sd) ?_ | refine AWk_step hT rfl rfl (by first | exact True.intro | omega | exact sd) ?_ | refine AWk_step0 hT rfl (by first | exact True.intro | omega | exact sd) ?_ | refine AWd_nil ?_ | refine AWk_nil ?_ | refine AWd_gstep hT rfl rfl rfl rfl rfl (by intro hg; first | exact ⟨True.intro, True.intro⟩ | exact sg hg) ?_ | refine AWk_gstep hT rfl rfl rfl rfl (by intro hg; first | exact ⟨True.intro, True.intro⟩ | exact sg hg) ?_ | refine AW_seq ?_ | refine AW_region ?_ | refine AW_draw mixed (by kernel_rfl) ?_ | refine AW_block ?_ | refine AW_skip ?_ | refine AW_exit ?_ | refine AW_ret ?_)
    have hres : encB (out ++ (hd ++ [UInt8.ofNat (tn % 256)] ++ lenR (cap4 c).length ++ cap4 c)) = encB (out ++ hd) ++ [[Dat.int .u8 (IntKind.u8.wrap (tn : Int))]] ++ encB (lenR (cap4 c).length) ++ encB (cap4 c) := by
      rw [hlo]; simp only [encB_append, List.append_assoc]; rfl
    exact ⟨(i + 1, out ++ (hd ++ [UInt8.ofNat (tn % 256)] ++ lenR (cap4 c).length ++ cap4 c)), ⟨by simp only; omega, by simp only [List.length_append, List.length_singleton]; omega, hg⟩, by simp only; omega, ⟨AV.le.eq (by rw [hres]; rfl), .refl _, AV.le.eq (by show AV.d (.int .i64 (IntKind.i64.wrap ((i : Int) + 1))) = _; rw [hwr]), trivial⟩, ⟨⟨rfl, by rw [hres]⟩, trivial⟩⟩
  · have h1' : ¬ (i < l.length ∧ out.length ≤ 4096) := by rw [hlen, hol] at h1; simp at h1; omega
    have hce : out = fin := by
      by_cases h2 : i < l.length
      · have hdrop : l.drop i = l[i] :: l.drop (i + 1) := by simp
        rw [hdrop, rawL, if_neg (by omega)] at hg
        exact hg
      · have : i = l.length := by omega
        subst this
        rw [List.drop_length, rawL] at hg
        exact hg
    subst hce
    repeat (first | refine AWd_step hT rfl rfl rfl (by first | exact True.intro | omega | exact sd) ?_ | refine AWk_step hT rfl rfl (by first | exact True.intro | omega | exact sd) ?_ | refine AWk_step0 hT rfl (by first | exact True.intro | omega | exact sd) ?_ | refine AWd_nil ?_ | refine AWk_nil ?_ | refine AWd_gstep hT rfl rfl rfl rfl rfl (by intro hg; first | exact ⟨True.intro, True.intro⟩ | exact sg hg) ?_ | refine AWk_gstep hT rfl rfl rfl rfl (by intro hg; first | exact ⟨True.intro, True.intro⟩ | exact sg hg) ?_ | refine AW_seq ?_ | refine AW_region ?_ | refine AW_draw mixed (by kernel_rfl) ?_ | refine AW_block ?_ | refine AW_skip ?_ | refine AW_exit ?_ | refine AW_ret ?_)
    exact ret_exact rfl AV.le.dat rfl rfl rfl rfl ⟨rfl, rfl⟩
end Tdoc
