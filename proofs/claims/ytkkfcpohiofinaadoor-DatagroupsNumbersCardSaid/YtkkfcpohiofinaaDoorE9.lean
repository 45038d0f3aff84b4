/- The reference's writing and Encode, and that it is the program's. -/
import Derived.Test.YtkkfcpohiofinaaDoorE8
set_option linter.unusedVariables false
set_option linter.unusedSimpArgs false
namespace Tdoc
open Go Go.Proofs

def lenR (n : Nat) : List UInt8 := if n ≤ 127 then [UInt8.ofNat n] else if n ≤ 255 then [129, UInt8.ofNat n] else [130, UInt8.ofNat (n / 256 % 256), UInt8.ofNat (n % 256)]
def cap4 (c : List UInt8) : List UInt8 := if c.length > 4096 then c.take 4097 else c
mutual
def rawN : Node → List UInt8
  | .mk t v k => tagB t ++ lenR (cap4 (if tagCons t = true then rawL k [] else v)).length ++ cap4 (if tagCons t = true then rawL k [] else v)
def rawL : List Node → List UInt8 → List UInt8
  | [], out => out
  | a :: l, out => if out.length ≤ 4096 then rawL l (out ++ rawN a) else out
end

theorem cap4_le (c : List UInt8) : (cap4 c).length ≤ 4097 := by
  unfold cap4
  split
  · rw [List.length_take]; omega
  · omega
theorem lenR_le (n : Nat) : (lenR n).length ≤ 3 := by unfold lenR; split <;> (try split) <;> simp
theorem tagB_le (t : Int) : (tagB t).length ≤ 2 := by unfold tagB; split <;> simp
theorem rawN_le : ∀ (n : Node), (rawN n).length ≤ 4102
  | .mk t v k => by
    rw [rawN]
    have := cap4_le (if tagCons t = true then rawL k [] else v)
    have := lenR_le (cap4 (if tagCons t = true then rawL k [] else v)).length
    have := tagB_le t
    simp only [List.length_append]; omega
theorem rawL_le : ∀ (l : List Node) (out : List UInt8), out.length ≤ 8198 → (rawL l out).length ≤ 8198
  | [], out, h => h
  | a :: l, out, h => by
    rw [rawL]
    split
    · refine rawL_le l _ ?_
      have := rawN_le a
      rw [List.length_append]; omega
    · exact h

theorem lenR_eq {n : Nat} (h : n ≤ 4097) : lenR n = lenB n := by
  unfold lenR lenB
  by_cases h1 : n ≤ 127
  · rw [if_pos h1, if_pos (by omega)]
  · rw [if_neg h1, if_neg (show ¬ n < 128 by omega)]
    by_cases h2 : n ≤ 255
    · have hd : digs 8 n = [UInt8.ofNat n] := by
        have hz : n / 256 = 0 := by omega
        show (digL (7 + 1) n).reverse = _
        rw [digL, if_neg (by omega), hz, digL_zero, Nat.mod_eq_of_lt (by omega)]
        rfl
      rw [if_pos h2, hd]; rfl
    · have hd : digs 8 n = [UInt8.ofNat (n / 256 % 256), UInt8.ofNat (n % 256)] := by
        have hz : n / 256 / 256 = 0 := by omega
        show (digL (6 + 1 + 1) n).reverse = _
        rw [digL, if_neg (by omega), digL, if_neg (by omega), hz, digL_zero]
        rfl
      rw [if_neg h2, hd]; rfl

mutual
theorem rawN_ok : ∀ (n : Node), ((wrN n).length ≤ 4096 → rawN n = wrN n) ∧ (4096 < (wrN n).length → 4096 < (rawN n).length)
  | .mk t v k => by
    have hk := rawL_ok k []
    rw [rawN, wrN]
    generalize hcw : (if tagCons t = true then wrL k else v) = cw
    generalize hcr : (if tagCons t = true then rawL k [] else v) = cr
    have hc : (cw.length ≤ 4096 → cr = cw) ∧ (4096 < cw.length → 4096 < cr.length) := by
      by_cases hcon : tagCons t = true
      · rw [if_pos hcon] at hcw hcr
        subst hcw; subst hcr
        simpa using hk
      · rw [if_neg hcon] at hcw hcr
        subst hcw; subst hcr
        exact ⟨fun _ => rfl, fun h => h⟩
    refine ⟨fun h => ?_, fun h => ?_⟩
    · simp only [List.length_append] at h
      have h1 : cw.length ≤ 4096 := by omega
      rw [hc.1 h1]
      have h2 : cap4 cw = cw := by unfold cap4; rw [if_neg (by omega)]
      rw [h2, lenR_eq (by omega)]
    · by_cases h1 : cw.length ≤ 4096
      · rw [hc.1 h1]
        have h2 : cap4 cw = cw := by unfold cap4; rw [if_neg (by omega)]
        rw [h2, lenR_eq (by omega)]
        exact h
      · have h3 := hc.2 (by omega)
        have h2 : (cap4 cr).length = 4097 := by unfold cap4; rw [if_pos h3]; simp; omega
        simp only [List.length_append, h2]; omega
theorem rawL_ok : ∀ (l : List Node) (out : List UInt8), ((out ++ wrL l).length ≤ 4096 → rawL l out = out ++ wrL l) ∧ (4096 < (out ++ wrL l).length → 4096 < (rawL l out).length)
  | [], out => by simp [rawL, wrL]
  | a :: l, out => by
    have ha := rawN_ok a
    have hl := rawL_ok l (out ++ rawN a)
    rw [rawL, wrL]
    simp only [List.length_append] at hl ⊢
    refine ⟨fun h => ?_, fun h => ?_⟩
    · have h1 := ha.1 (by omega)
      rw [h1] at hl ⊢
      rw [if_pos (by omega), hl.1 (by omega), List.append_assoc]
    · split
      · by_cases h1 : (wrN a).length ≤ 4096
        · have h2 := ha.1 h1
          rw [h2] at hl ⊢
          exact hl.2 (by omega)
        · have h2 := ha.2 (by omega)
          exact hl.2 (by omega)
      · omega
end

/-- What the reference's Encode says is what the program's says. -/
theorem encodeR_eq (l : List Node) : encodeP l = if (chkL 1 l 0).1 ≠ 0 then ([], (chkL 1 l 0).1) else if cntL 256 l 0 > 256 then ([], 2) else if (rawL l []).length > 4096 then ([], 2) else (rawL l [], 0) := by
  unfold encodeP
  by_cases h1 : (chkL 1 l 0).1 ≠ 0
  · rw [if_pos h1, if_pos h1]
  · rw [if_neg h1, if_neg h1]
    have hc := (chkL_count 1 l 0).2 (by omega)
    have hn := cntL_ok 256 l 0
    have hr := rawL_ok l []
    simp only [List.nil_append] at hr
    by_cases h2 : sizeL l > 256
    · rw [if_pos (by omega), if_pos (hn.2 (by omega))]
    · have := hn.1 (by omega)
      rw [if_neg (show ¬ (chkL 1 l 0).2 > 256 by omega), if_neg (show ¬ cntL 256 l 0 > 256 by omega)]
      by_cases h3 : (wrL l).length > 4096
      · rw [if_pos h3, if_pos (hr.2 h3)]
      · rw [if_neg h3, hr.1 (by omega), if_neg h3]

set_option maxHeartbeats 2000000 in
set_option maxRecDepth 100000 in
theorem lengthR_spec (n : Nat) (hn : n ≤ 65535) : Spec Tryd.prog 54 [.d (.int .i64 (n : Int))] [] (fun r h' => r = .d (.sl 1 (encB (lenR n))) ∧ h' = []) := by
  refine Spec_of_body hT Tryd.func54 rfl rfl rfl rfl ?_
  intro E hE
  repeat (first | refine AWd_step hT rfl rfl rfl (by first | exact True.intro | omega | exact sd) ?_ | refine AWk_step hT rfl rfl (by first | exact True.intro | omega | exact sd) ?_ | refine AWk_step0 hT rfl (by first | exact True.intro | omega | exact sd) ?_ | refine AWd_nil ?_ | refine AWk_nil ?_ | refine AWd_gstep hT rfl rfl rfl rfl rfl (by intro hg; first | exact ⟨True.intro, True.intro⟩ | exact sg hg) ?_ | refine AWk_gstep hT rfl rfl rfl rfl (by intro hg; first | exact ⟨True.intro, True.intro⟩ | exact sg hg) ?_ | refine AW_seq ?_ | refine AW_region ?_ | refine AW_draw mixed (by kernel_rfl) ?_ | refine AW_block ?_ | refine AW_skip ?_ | refine AW_exit ?_ | refine AW_ret ?_)
  refine AW_condL rfl (fun h1 => ?_) (fun h1 => ?_)
  · have h1' : n ≤ 127 := by simp at h1; omega
    have hw8 : IntKind.u8.wrap (n : Int) = ((UInt8.ofNat n).toNat : Int) := by rw [toNat_ofNat (by omega)]; exact wrapu8 (by omega)
    rw [show lenR n = [UInt8.ofNat n] by unfold lenR; rw [if_pos h1'], show encB [UInt8.ofNat n] = [[.int .u8 (IntKind.u8.wrap (n : Int))]] by rw [hw8]; rfl]
    repeat (first | refine AWd_step hT rfl rfl rfl (by first | exact True.intro | omega | exact sd) ?_ | refine AWk_step hT rfl rfl (by first | exact True.intro | omega | exact sd) ?_ | refine AWk_step0 hT rfl (by first | exact True.intro | omega | exact sd) ?_ | refine AWd_nil ?_ | refine AWk_nil ?_ | refine AWd_gstep hT rfl rfl rfl rfl rfl (by intro hg; first | exact ⟨True.intro, True.intro⟩ | exact sg hg) ?_ | refine AWk_gstep hT rfl rfl rfl rfl (by intro hg; first | exact ⟨True.intro, True.intro⟩ | exact sg hg) ?_ | refine AW_seq ?_ | refine AW_region ?_ | refine AW_draw mixed (by kernel_rfl) ?_ | refine AW_block ?_ | refine AW_skip ?_ | refine AW_exit ?_ | refine AW_ret ?_)
    exact ret_exact rfl AV.le.dat rfl rfl rfl rfl ⟨rfl, rfl⟩
  · have h1' : ¬ n ≤ 127 := by simp at h1; omega
    repeat (first | refine AWd_step hT rfl rfl rfl (by first | exact True.intro | omega | exact sd) ?_ | refine AWk_step hT rfl rfl (by first | exact True.intro | omega | exact sd) ?_ | refine AWk_step0 hT rfl (by first | exact True.intro | omega | exact sd) ?_ | refine AWd_nil ?_ | refine AWk_nil ?_ | refine AWd_gstep hT rfl rfl rfl rfl rfl (by intro hg; first | exact ⟨True.intro, True.intro⟩ | exact sg hg) ?_ | refine AWk_gstep hT rfl rfl rfl rfl (by intro hg; first | exact ⟨True.intro, True.intro⟩ | exact sg hg) ?_ | refine AW_seq ?_ | refine AW_region ?_ | refine AW_draw mixed (by kernel_rfl) ?_ | refine AW_block ?_ | refine AW_skip ?_ | refine AW_exit ?_ | refine AW_ret ?_)
    refine AW_condL rfl (fun h2 => ?_) (fun h2 => ?_)
    · have h2' : n ≤ 255 := by simp at h2; omega
      have hw8 : IntKind.u8.wrap (n : Int) = ((UInt8.ofNat n).toNat : Int) := by rw [toNat_ofNat (by omega)]; exact wrapu8 (by omega)
      rw [show lenR n = [129, UInt8.ofNat n] by unfold lenR; rw [if_neg h1', if_pos h2'], show encB [129, UInt8.ofNat n] = [[.int .u8 129], [.int .u8 (IntKind.u8.wrap (n : Int))]] by rw [hw8]; rfl]
      repeat (first | refine AWd_step hT rfl rfl rfl (by first | exact True.intro | omega | exact sd) ?_ | refine AWk_step hT rfl rfl (by first | exact True.intro | omega | exact sd) ?_ | refine AWk_step0 hT rfl (by first | exact True.intro | omega | exact sd) ?_ | refine AWd_nil ?_ | refine AWk_nil ?_ | refine AWd_gstep hT rfl rfl rfl rfl rfl (by intro hg; first | exact ⟨True.intro, True.intro⟩ | exact sg hg) ?_ | refine AWk_gstep hT rfl rfl rfl rfl (by intro hg; first | exact ⟨True.intro, True.intro⟩ | exact sg hg) ?_ | refine AW_seq ?_ | refine AW_region ?_ | refine AW_draw mixed (by kernel_rfl) ?_ | refine AW_block ?_ | refine AW_skip ?_ | refine AW_exit ?_ | refine AW_ret ?_)
      exact ret_exact rfl AV.le.dat rfl rfl rfl rfl ⟨rfl, rfl⟩
    · have h2' : ¬ n ≤ 255 := by simp at h2; omega
      have hlo : IntKind.u8.wrap (n : Int) = ((UInt8.ofNat (n % 256)).toNat : Int) := by rw [wrapu8_mod, toNat_ofNat (Nat.mod_lt _ (by omega))]; simp
      have hshr : Int.fdiv (n : Int) (2 ^ (min (8 : Int).toNat IntKind.i64.bits)) = ((n / 256 : Nat) : Int) := shr_nat n 8
      have hhi : IntKind.u8.wrap (Int.fdiv (n : Int) (2 ^ (min (8 : Int).toNat IntKind.i64.bits))) = ((UInt8.ofNat (n / 256 % 256)).toNat : Int) := by rw [hshr, wrapu8_mod, toNat_ofNat (Nat.mod_lt _ (by omega))]; simp
      rw [show lenR n = [130, UInt8.ofNat (n / 256 % 256), UInt8.ofNat (n % 256)] by unfold lenR; rw [if_neg h1', if_neg h2'],
        show encB [130, UInt8.ofNat (n / 256 % 256), UInt8.ofNat (n % 256)] = [[.int .u8 130], [.int .u8 (IntKind.u8.wrap (Int.fdiv (n : Int) (2 ^ (min (8 : Int).toNat IntKind.i64.bits))))], [.int .u8 (IntKind.u8.wrap (n : Int))]] by rw [hlo, hhi]; rfl]
      repeat (first | refine AWd_step hT rfl rfl rfl (by first | exact True.intro | omega | exact sd) ?_ | refine AWk_step hT rfl rfl (by first | exact True.intro | omega | exact sd) ?_ | refine AWk_step0 hT rfl (by first | exact True.intro | omega | exact sd) ?_ | refine AWd_nil ?_ | refine AWk_nil ?_ | refine AWd_gstep hT rfl rfl rfl rfl rfl (by intro hg; first | exact ⟨True.intro, True.intro⟩ | exact sg hg) ?_ | refine AWk_gstep hT rfl rfl rfl rfl (by intro hg; first | exact ⟨True.intro, True.intro⟩ | exact sg hg) ?_ | refine AW_seq ?_ | refine AW_region ?_ | refine AW_draw mixed (by kernel_rfl) ?_ | refine AW_block ?_ | refine AW_skip ?_ | refine AW_exit ?_ | refine AW_ret ?_)
      exact ret_exact rfl AV.le.dat rfl rfl rfl rfl ⟨rfl, rfl⟩
end Tdoc
