/- Lengths in shortest form. -/
import Derived.Test.YtkkfcpohiofinaaDoorE5
set_option linter.unusedVariables false
set_option linter.unusedSimpArgs false
namespace Tdoc
open Go Go.Proofs

theorem byteAV_length (s : List UInt8) : (byteAV s).length = s.length := by simp [byteAV]
theorem byteAV_append (a b : List UInt8) : byteAV (a ++ b) = byteAV a ++ byteAV b := by simp [byteAV]
theorem byteAV_reverse (a : List UInt8) : (byteAV a).reverse = byteAV a.reverse := by simp [byteAV, List.map_reverse]
theorem byteAV_scalar {s : List UInt8} {c : AV} (h : c ∈ byteAV s) : scalarA c = true := by
  simp only [byteAV, List.mem_map] at h
  obtain ⟨b, _, rfl⟩ := h; rfl
theorem byteAV_low {k : Nat} {s : List UInt8} {c : AV} (h : c ∈ byteAV s) : low k c = true := by
  simp only [byteAV, List.mem_map] at h
  obtain ⟨b, _, rfl⟩ := h; rfl
theorem lowL_bytes (k : Nat) (s : List UInt8) : lowL k (byteAV s) = true := lowL_of fun c hc => byteAV_low hc
theorem lowH_bytes (k n : Nat) (s : List UInt8) : lowH k [.buf 1 n (byteAV s)] = true := by show (lowL k (byteAV s) && true) = true; rw [Bool.and_true]; exact lowL_bytes k s
theorem flatAV_encB (s : List UInt8) : flatAV (encB s) = byteAV s := by
  induction s with
  | nil => rfl
  | cons a s ih =>
    simp only [flatAV, encB, byteAV, List.map_cons, List.flatten_cons, List.map_append] at ih ⊢
    rw [ih]; rfl
theorem RowDat_bytes (s : List UInt8) : RowDat (byteAV s) 0 1 (encB s) := by
  refine ⟨fun e he => ?_, fun i e j d he hd => ?_⟩
  · simp only [encB, List.mem_map] at he
    obtain ⟨b, _, rfl⟩ := he; rfl
  · simp only [encB, List.getElem?_map, Option.map_eq_some_iff] at he
    obtain ⟨b, hb, rfl⟩ := he
    cases j with
    | zero => simp at hd; subst hd; exact ⟨.d (.int .u8 (b.toNat : Int)), by simp [byteAV, hb], rfl⟩
    | succ j => simp at hd

theorem toNat_ofNat {n : Nat} (h : n < 256) : (UInt8.ofNat n).toNat = n := by simp; omega

set_option maxHeartbeats 4000000 in
set_option maxRecDepth 100000 in
theorem length_spec (n : Nat) (hn : n ≤ 1000000000000) : Spec Tryd.prog 51 [.d (.int .i64 (n : Int))] [] (fun r h' => r = .d (.sl 1 (encB (lenB n))) ∧ h' = []) := by
  refine Spec_of_body hT Tryd.func51 rfl rfl rfl rfl ?_
  intro E hE
  repeat (first | refine AWd_step hT rfl rfl rfl (by first | exact True.intro | omega | exact sd) ?_ | refine AWk_step hT rfl rfl (by first | exact True.intro | omega | exact sd) ?_ | refine AWk_step0 hT rfl (by first | exact True.intro | omega | exact sd) ?_ | refine AWd_nil ?_ | refine AWk_nil ?_ | refine AWd_gstep hT rfl rfl rfl rfl rfl (by intro hg; first | exact ⟨True.intro, True.intro⟩ | exact sg hg) ?_ | refine AWk_gstep hT rfl rfl rfl rfl (by intro hg; first | exact ⟨True.intro, True.intro⟩ | exact sg hg) ?_ | refine AW_seq ?_ | refine AW_region ?_ | refine AW_draw mixed (by kernel_rfl) ?_ | refine AW_block ?_ | refine AW_skip ?_ | refine AW_exit ?_ | refine AW_ret ?_)
  refine AW_condL rfl (fun h1 => ?_) (fun h1 => ?_)
  · have h1' : n < 128 := by simp at h1; omega
    have hw8 : IntKind.u8.wrap (n : Int) = ((UInt8.ofNat n).toNat : Int) := by rw [toNat_ofNat (by omega)]; exact wrapu8 (by omega)
    have hL : lenB n = [UInt8.ofNat n] := by unfold lenB; rw [if_pos h1']
    rw [hL, show encB [UInt8.ofNat n] = [[.int .u8 (IntKind.u8.wrap (n : Int))]] by rw [hw8]; rfl]
    repeat (first | refine AWd_step hT rfl rfl rfl (by first | exact True.intro | omega | exact sd) ?_ | refine AWk_step hT rfl rfl (by first | exact True.intro | omega | exact sd) ?_ | refine AWk_step0 hT rfl (by first | exact True.intro | omega | exact sd) ?_ | refine AWd_nil ?_ | refine AWk_nil ?_ | refine AWd_gstep hT rfl rfl rfl rfl rfl (by intro hg; first | exact ⟨True.intro, True.intro⟩ | exact sg hg) ?_ | refine AWk_gstep hT rfl rfl rfl rfl (by intro hg; first | exact ⟨True.intro, True.intro⟩ | exact sg hg) ?_ | refine AW_seq ?_ | refine AW_region ?_ | refine AW_draw mixed (by kernel_rfl) ?_ | refine AW_block ?_ | refine AW_skip ?_ | refine AW_exit ?_ | refine AW_ret ?_)
    exact ret_exact rfl AV.le.dat rfl rfl rfl rfl ⟨rfl, rfl⟩
  · have h1' : ¬ n < 128 := by simp at h1; omega
    have hL : lenB n = UInt8.ofNat (128 + (digs 8 n).length) :: digs 8 n := by unfold lenB; rw [if_neg h1']
    have hdl := digL_length 8 n
    generalize hfull : digL 8 n = full at hdl
    have hL2 : lenB n = (full ++ [UInt8.ofNat (128 + full.length)]).reverse := by rw [hL, digs, hfull]; simp
    rw [hL2]
    refine AW_room ?_
    repeat (first | refine AW_exit ?_ | refine AW_skip ?_)
    refine AW_seq (AW_region ?_)
    repeat (first | refine AWd_step hT rfl rfl rfl (by first | exact True.intro | omega | exact sd) ?_ | refine AWk_step hT rfl rfl (by first | exact True.intro | omega | exact sd) ?_ | refine AWk_step0 hT rfl (by first | exact True.intro | omega | exact sd) ?_ | refine AWd_nil ?_ | refine AWk_nil ?_ | refine AWd_gstep hT rfl rfl rfl rfl rfl (by intro hg; first | exact ⟨True.intro, True.intro⟩ | exact sg hg) ?_ | refine AWk_gstep hT rfl rfl rfl rfl (by intro hg; first | exact ⟨True.intro, True.intro⟩ | exact sg hg) ?_)
    refine AW_bufOf 3 1 0 (.inr rfl) rfl rfl ?_
    repeat (first | refine AWd_step hT rfl rfl rfl (by first | exact True.intro | omega | exact sd) ?_ | refine AWk_step hT rfl rfl (by first | exact True.intro | omega | exact sd) ?_ | refine AWk_step0 hT rfl (by first | exact True.intro | omega | exact sd) ?_ | refine AWd_nil ?_ | refine AWk_nil ?_ | refine AWd_gstep hT rfl rfl rfl rfl rfl (by intro hg; first | exact ⟨True.intro, True.intro⟩ | exact sg hg) ?_ | refine AWk_gstep hT rfl rfl rfl rfl (by intro hg; first | exact ⟨True.intro, True.intro⟩ | exact sg hg) ?_ | refine AW_seq ?_ | refine AW_region ?_ | refine AW_draw mixed (by kernel_rfl) ?_ | refine AW_block ?_ | refine AW_skip ?_ | refine AW_exit ?_ | refine AW_ret ?_)
    refine AW_loopL (ι := List UInt8 × Nat × Nat) (fun x => [(0, .d (.int .i64 (x.2.2 : Int))), (3, .bm 0 x.1.length)]) (fun x => [.buf 1 x.1.length (byteAV x.1)])
      (fun x => x.1.length + x.2.1 ≤ 8 ∧ x.2.2 < 256 ^ x.2.1 ∧ x.2.2 ≤ 1000000000000 ∧ x.1 ++ digL x.2.1 x.2.2 = full) (fun x => x.2.1) ([], 8, n) ⟨by simp, by simp only; omega, hn, by simpa using hfull⟩ ⟨.refl _, .refl _, trivial⟩ (HLe.refl _) ?_
    rintro ⟨acc, m, k⟩ ⟨j1, j2, j3, j4⟩
    simp only at j1 j2 j3 j4 ⊢
    repeat (first | refine AWd_step hT rfl rfl rfl (by first | exact True.intro | omega | exact sd) ?_ | refine AWk_step hT rfl rfl (by first | exact True.intro | omega | exact sd) ?_ | refine AWk_step0 hT rfl (by first | exact True.intro | omega | exact sd) ?_ | refine AWd_nil ?_ | refine AWk_nil ?_ | refine AWd_gstep hT rfl rfl rfl rfl rfl (by intro hg; first | exact ⟨True.intro, True.intro⟩ | exact sg hg) ?_ | refine AWk_gstep hT rfl rfl rfl rfl (by intro hg; first | exact ⟨True.intro, True.intro⟩ | exact sg hg) ?_ | refine AW_seq ?_ | refine AW_region ?_ | refine AW_draw mixed (by kernel_rfl) ?_ | refine AW_block ?_ | refine AW_skip ?_ | refine AW_exit ?_ | refine AW_ret ?_)
    refine AW_condL rfl (fun h2 => ?_) (fun h2 => ?_)
    · have h2' : 0 < k := by simp at h2; omega
      obtain ⟨m, rfl⟩ : ∃ m', m = m' + 1 := ⟨m - 1, by
        rcases Nat.eq_zero_or_pos m with h0 | h0
        · subst h0; simp at j2; omega
        · omega⟩
      rw [digL, if_neg (by omega)] at j4
      have hshr : Int.fdiv (k : Int) (2 ^ (min (8 : Int).toNat IntKind.i64.bits)) = ((k / 256 : Nat) : Int) := shr_nat k 8
      have hb : IntKind.u8.wrap (k : Int) = ((UInt8.ofNat (k % 256)).toNat : Int) := by rw [wrapu8_mod, toNat_ofNat (Nat.mod_lt _ (by omega))]; simp
      repeat (first | refine AWd_step hT rfl rfl rfl (by first | exact True.intro | omega | exact sd) ?_ | refine AWk_step hT rfl rfl (by first | exact True.intro | omega | exact sd) ?_ | refine AWk_step0 hT rfl (by first | exact True.intro | omega | exact sd) ?_ | refine AWd_nil ?_ | refine AWk_nil ?_ | refine AWd_gstep hT rfl rfl rfl rfl rfl (by intro hg; first | exact ⟨True.intro, True.intro⟩ | exact sg hg) ?_ | refine AWk_gstep hT rfl rfl rfl rfl (by intro hg; first | exact ⟨True.intro, True.intro⟩ | exact sg hg) ?_ | refine AW_seq ?_ | refine AW_region ?_ | refine AW_draw mixed (by kernel_rfl) ?_ | refine AW_block ?_ | refine AW_skip ?_ | refine AW_exit ?_ | refine AW_ret ?_)
      refine AWk_opF (bufApp_ok hT rfl rfl rfl rfl rfl rfl (by show (acc.length + 1) * (1 + 1) ≤ _; omega)) rfl rfl ?_
      repeat (first | refine AWd_step hT rfl rfl rfl (by first | exact True.intro | omega | exact sd) ?_ | refine AWk_step hT rfl rfl (by first | exact True.intro | omega | exact sd) ?_ | refine AWk_step0 hT rfl (by first | exact True.intro | omega | exact sd) ?_ | refine AWd_nil ?_ | refine AWk_nil ?_ | refine AWd_gstep hT rfl rfl rfl rfl rfl (by intro hg; first | exact ⟨True.intro, True.intro⟩ | exact sg hg) ?_ | refine AWk_gstep hT rfl rfl rfl rfl (by intro hg; first | exact ⟨True.intro, True.intro⟩ | exact sg hg) ?_ | refine AW_seq ?_ | refine AW_region ?_ | refine AW_draw mixed (by kernel_rfl) ?_ | refine AW_block ?_ | refine AW_skip ?_ | refine AW_exit ?_ | refine AW_ret ?_)
      refine ⟨(acc ++ [UInt8.ofNat (k % 256)], m, k / 256), ⟨by simp only [List.length_append, List.length_singleton]; omega, by rw [Nat.pow_succ] at j2; simp only; omega, by simp only; omega, by simpa using j4⟩, by simp only; omega, ⟨AV.le.eq ?_, AV.le.eq ?_, trivial⟩, ⟨⟨rfl, ?_, ?_⟩, trivial⟩⟩
      · show AV.d (.int .i64 (Int.fdiv (k : Int) (2 ^ (min (8 : Int).toNat IntKind.i64.bits)))) = _
        rw [hshr]
      · simp; rfl
      · simp
      · rw [byteAV_append]
        show AllLe (byteAV acc ++ [AV.d (.int .u8 (IntKind.u8.wrap (k : Int)))]) _
        rw [hb]
        exact AllLe.refl _
    · have h2' : k = 0 := by simp at h2; omega
      subst h2'
      rw [digL_zero, List.append_nil] at j4
      subst j4
      have hor : IntKind.u8.wrap ((BitVec.ofInt IntKind.u8.bits 128 ||| BitVec.ofInt IntKind.u8.bits (IntKind.u8.wrap (acc.length : Int))).toNat : Int) = ((UInt8.ofNat (128 + acc.length)).toNat : Int) := by
        rw [wrapu8 (n := (acc.length : Int)) (by omega), toNat_ofNat (by omega)]
        have := or_nat8 (a := 128) (b := acc.length) (by omega) (by omega)
        rw [show (128 ||| acc.length) = 128 + acc.length from shl_or 1 acc.length 7 (by omega)] at this
        exact this
      have hrev := Reverse_spec (byteAV (acc ++ [UInt8.ofNat (128 + acc.length)])) (by rw [byteAV_length]; simp; omega) (fun c hc => byteAV_scalar hc) (fun c hc => byteAV_low hc)
      rw [byteAV_length, byteAV_reverse] at hrev
      repeat (first | refine AW_exit ?_ | refine AW_skip ?_)
      refine AW_seq (AW_region ?_)
      repeat (first | refine AWd_step hT rfl rfl rfl (by first | exact True.intro | omega | exact sd) ?_ | refine AWk_step hT rfl rfl (by first | exact True.intro | omega | exact sd) ?_ | refine AWk_step0 hT rfl (by first | exact True.intro | omega | exact sd) ?_ | refine AWd_nil ?_ | refine AWk_nil ?_ | refine AWd_gstep hT rfl rfl rfl rfl rfl (by intro hg; first | exact ⟨True.intro, True.intro⟩ | exact sg hg) ?_ | refine AWk_gstep hT rfl rfl rfl rfl (by intro hg; first | exact ⟨True.intro, True.intro⟩ | exact sg hg) ?_)
      refine AWk_opF (bufApp_ok hT rfl rfl rfl rfl rfl rfl (by show (acc.length + 1) * (1 + 1) ≤ _; omega)) rfl rfl ?_
      repeat (first | refine AWd_step hT rfl rfl rfl (by first | exact True.intro | omega | exact sd) ?_ | refine AWk_step hT rfl rfl (by first | exact True.intro | omega | exact sd) ?_ | refine AWk_step0 hT rfl (by first | exact True.intro | omega | exact sd) ?_ | refine AWd_nil ?_ | refine AWk_nil ?_ | refine AWd_gstep hT rfl rfl rfl rfl rfl (by intro hg; first | exact ⟨True.intro, True.intro⟩ | exact sg hg) ?_ | refine AWk_gstep hT rfl rfl rfl rfl (by intro hg; first | exact ⟨True.intro, True.intro⟩ | exact sg hg) ?_)
      refine AW_subL (l := [(3, .bm 0 (acc ++ [UInt8.ofNat (128 + acc.length)]).length)]) (h' := [.buf 1 (acc ++ [UInt8.ofNat (128 + acc.length)]).length (byteAV (acc ++ [UInt8.ofNat (128 + acc.length)]))]) ⟨AV.le.eq (by simp; rfl), trivial⟩ ⟨⟨rfl, by simp, ?_⟩, trivial⟩ ?_
      · rw [byteAV_append]
        show AllLe (byteAV acc ++ [AV.d (.int .u8 (IntKind.u8.wrap ((BitVec.ofInt IntKind.u8.bits 128 ||| BitVec.ofInt IntKind.u8.bits (IntKind.u8.wrap (acc.length : Int))).toNat : Int)))]) _
        rw [hor]
        exact AllLe.refl _
      generalize acc ++ [UInt8.ofNat (128 + acc.length)] = s at hrev ⊢
      refine AW_seq (AW_region ?_)
      repeat (first | refine AWd_step hT rfl rfl rfl (by first | exact True.intro | omega | exact sd) ?_ | refine AWk_step hT rfl rfl (by first | exact True.intro | omega | exact sd) ?_ | refine AWk_step0 hT rfl (by first | exact True.intro | omega | exact sd) ?_ | refine AWd_nil ?_ | refine AWk_nil ?_ | refine AWd_gstep hT rfl rfl rfl rfl rfl (by intro hg; first | exact ⟨True.intro, True.intro⟩ | exact sg hg) ?_ | refine AWk_gstep hT rfl rfl rfl rfl (by intro hg; first | exact ⟨True.intro, True.intro⟩ | exact sg hg) ?_)
      refine AWk_opF (callS1 rfl rfl hrev [0] (by decide) rfl rfl rfl (lowH_bytes _ _ _) (lowH_bytes _ _ _) rfl rfl) rfl rfl ?_
      repeat (first | refine AWd_step hT rfl rfl rfl (by first | exact True.intro | omega | exact sd) ?_ | refine AWk_step hT rfl rfl (by first | exact True.intro | omega | exact sd) ?_ | refine AWk_step0 hT rfl (by first | exact True.intro | omega | exact sd) ?_ | refine AWd_nil ?_ | refine AWk_nil ?_ | refine AWd_gstep hT rfl rfl rfl rfl rfl (by intro hg; first | exact ⟨True.intro, True.intro⟩ | exact sg hg) ?_ | refine AWk_gstep hT rfl rfl rfl rfl (by intro hg; first | exact ⟨True.intro, True.intro⟩ | exact sg hg) ?_)
      refine AW_freezeBuf 3 0 1 (encB s.reverse) rfl rfl (by rw [encB_length, List.length_reverse]) (RowDat_bytes _) rfl ?_
      repeat (first | refine AWd_step hT rfl rfl rfl (by first | exact True.intro | omega | exact sd) ?_ | refine AWk_step hT rfl rfl (by first | exact True.intro | omega | exact sd) ?_ | refine AWk_step0 hT rfl (by first | exact True.intro | omega | exact sd) ?_ | refine AWd_nil ?_ | refine AWk_nil ?_ | refine AWd_gstep hT rfl rfl rfl rfl rfl (by intro hg; first | exact ⟨True.intro, True.intro⟩ | exact sg hg) ?_ | refine AWk_gstep hT rfl rfl rfl rfl (by intro hg; first | exact ⟨True.intro, True.intro⟩ | exact sg hg) ?_ | refine AW_seq ?_ | refine AW_region ?_ | refine AW_draw mixed (by kernel_rfl) ?_ | refine AW_block ?_ | refine AW_skip ?_ | refine AW_exit ?_ | refine AW_ret ?_)
      exact ret_exact rfl AV.le.dat rfl rfl rfl rfl ⟨rfl, rfl⟩
end Tdoc
