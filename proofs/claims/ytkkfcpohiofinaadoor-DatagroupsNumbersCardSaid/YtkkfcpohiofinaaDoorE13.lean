/- The reader of objects: lengths. -/
import Derived.Test.YtkkfcpohiofinaaDoorE12
set_option linter.unusedVariables false
set_option linter.unusedSimpArgs false
namespace Tdoc
open Go Go.Proofs

def numB (b : List UInt8) : Nat → Nat → Nat → Nat
  | _, 0, a => a
  | p, k + 1, a => numB b (p + 1) k (a * 256 + byteAt b p)
theorem numB_lt (b : List UInt8) : ∀ (k p a m : Nat), a < 256 ^ m → numB b p k a < 256 ^ (m + k)
  | 0, p, a, m, h => h
  | k + 1, p, a, m, h => by
    have hx := byteAt_lt b p
    have h1 : a * 256 + byteAt b p < 256 ^ (m + 1) := by rw [Nat.pow_succ]; omega
    have h2 := numB_lt b k (p + 1) _ (m + 1) h1
    rw [numB, show m + (k + 1) = m + 1 + k by omega]; exact h2
def lenX (b : List UInt8) (e : Nat) (op st : Bool) (p : Nat) : Int × Int × Nat :=
  if e ≤ p then (0, 6, p)
  else if byteAt b p < 128 then ((byteAt b p : Int), 0, p + 1)
  else if 132 < byteAt b p ∨ (byteAt b p = 128 ∧ op = false) then (0, 5, p + 1)
  else if byteAt b p = 128 then (-1, 0, p + 1)
  else if e < p + 1 + byteAt b p % 16 then (0, 6, p + 1)
  else if st = true ∧ (numB b (p + 1) (byteAt b p % 16) 0 < 128 ∨ numB b (p + 1) (byteAt b p % 16) 0 / 2 ^ (8 * (byteAt b p % 16 - 1)) = 0) then (0, 5, p + 1 + byteAt b p % 16)
  else ((numB b (p + 1) (byteAt b p % 16) 0 : Int), 0, p + 1 + byteAt b p % 16)

set_option maxHeartbeats 4000000 in
set_option maxRecDepth 100000 in
theorem len_spec (b : List UInt8) (op st : Bool) (e p c : Nat) (hb : b.length ≤ 1000000) (he : e ≤ b.length) (hp : p ≤ e) :
    Spec Tryd.prog 67 [.ptr 0 0, .d (.int .i64 (e : Int)), .d (.bool op)] [.row (rdr b st p c)] (fun r h' => r = .tup [.d (.int .i64 (lenX b e op st p).1), .d (.int .i64 (lenX b e op st p).2.1)] ∧ h' = [.row (rdr b st (lenX b e op st p).2.2 c)]) := by
  have hx := byteAt_lt b p
  have hw0 : IntKind.i64.wrap (byteAt b p : Int) = (byteAt b p : Int) := wrap_id (by omega)
  have hwr : IntKind.i64.wrap ((p : Int) + 1) = ((p + 1 : Nat) : Int) := by rw [wrap_id (by omega)]; simp
  have hand : IntKind.i64.wrap ((BitVec.ofInt IntKind.i64.bits (IntKind.i64.wrap (byteAt b p : Int)) &&& BitVec.ofInt IntKind.i64.bits (15 : Int)).toNat : Int) = ((byteAt b p % 16 : Nat) : Int) := by
    rw [hw0]
    have := and_nat (a := byteAt b p) (b := 15) (by omega) (by omega)
    rw [mask_nat (byteAt b p) 4] at this
    exact this
  refine Spec_of_body hT Tryd.func67 rfl rfl rfl rfl ?_
  intro E hE
  unfold lenX
  repeat (first | refine AWd_step hT rfl rfl rfl (by first | exact True.intro | omega | exact sd) ?_ | refine AWk_step hT rfl rfl (by first | exact True.intro | omega | exact sd) ?_ | refine AWk_step0 hT rfl (by first | exact True.intro | omega | exact sd) ?_ | refine AWd_nil ?_ | refine AWk_nil ?_ | refine AWd_gstep hT rfl rfl rfl rfl rfl (by intro hg; first | exact ⟨True.intro, True.intro⟩ | exact sg hg) ?_ | refine AWk_gstep hT rfl rfl rfl rfl (by intro hg; first | exact ⟨True.intro, True.intro⟩ | exact sg hg) ?_ | refine AW_seq ?_ | refine AW_region ?_ | refine AW_draw mixed (by kernel_rfl) ?_ | refine AW_block ?_ | refine AW_skip ?_ | refine AW_exit ?_ | refine AW_ret ?_)
  refine AW_condL rfl (fun h1 => ?_) (fun h1 => ?_)
  · have h1' : e ≤ p := by simpa using h1
    rw [if_pos h1']
    repeat (first | refine AWd_step hT rfl rfl rfl (by first | exact True.intro | omega | exact sd) ?_ | refine AWk_step hT rfl rfl (by first | exact True.intro | omega | exact sd) ?_ | refine AWk_step0 hT rfl (by first | exact True.intro | omega | exact sd) ?_ | refine AWd_nil ?_ | refine AWk_nil ?_ | refine AWd_gstep hT rfl rfl rfl rfl rfl (by intro hg; first | exact ⟨True.intro, True.intro⟩ | exact sg hg) ?_ | refine AWk_gstep hT rfl rfl rfl rfl (by intro hg; first | exact ⟨True.intro, True.intro⟩ | exact sg hg) ?_ | refine AW_seq ?_ | refine AW_region ?_ | refine AW_draw mixed (by kernel_rfl) ?_ | refine AW_block ?_ | refine AW_skip ?_ | refine AW_exit ?_ | refine AW_ret ?_)
    exact ret_exact rfl (.refl _) rfl rfl rfl rfl ⟨rfl, rfl⟩
  · have h1' : ¬ e ≤ p := by simpa using h1
    have hel : (encB b)[((p : Int)).toNat]? = some [.int .u8 (byteAt b p : Int)] := encB_byte (by omega)
    rw [if_neg h1']
    repeat (first | refine AWd_step hT rfl rfl rfl (by first | exact True.intro | omega | exact sd) ?_ | refine AWk_step hT rfl rfl (by first | exact True.intro | omega | exact sd) ?_ | refine AWk_step0 hT rfl (by first | exact True.intro | omega | exact sd) ?_ | refine AWd_nil ?_ | refine AWk_nil ?_ | refine AWd_gstep hT rfl rfl rfl rfl rfl (by intro hg; first | exact ⟨True.intro, True.intro⟩ | exact sg hg) ?_ | refine AWk_gstep hT rfl rfl rfl rfl (by intro hg; first | exact ⟨True.intro, True.intro⟩ | exact sg hg) ?_ | refine AW_seq ?_ | refine AW_region ?_ | refine AW_draw mixed (by kernel_rfl) ?_ | refine AW_block ?_ | refine AW_skip ?_ | refine AW_exit ?_ | refine AW_ret ?_)
    refine AWd_op (OpS_of_pure (indexAddr_ok hT rfl rfl rfl rfl (by omega) hel)) rfl rfl ?_
    repeat (first | refine AWd_step hT rfl rfl rfl (by first | exact True.intro | omega | exact sd) ?_ | refine AWk_step hT rfl rfl (by first | exact True.intro | omega | exact sd) ?_ | refine AWk_step0 hT rfl (by first | exact True.intro | omega | exact sd) ?_ | refine AWd_nil ?_ | refine AWk_nil ?_ | refine AWd_gstep hT rfl rfl rfl rfl rfl (by intro hg; first | exact ⟨True.intro, True.intro⟩ | exact sg hg) ?_ | refine AWk_gstep hT rfl rfl rfl rfl (by intro hg; first | exact ⟨True.intro, True.intro⟩ | exact sg hg) ?_ | refine AW_seq ?_ | refine AW_region ?_ | refine AW_draw mixed (by kernel_rfl) ?_ | refine AW_block ?_ | refine AW_skip ?_ | refine AW_exit ?_ | refine AW_ret ?_)
    refine AW_condL rfl (fun h2 => ?_) (fun h2 => ?_)
    · have h2' : byteAt b p < 128 := by rw [hw0] at h2; simp at h2; omega
      rw [if_pos h2']
      repeat (first | refine AWd_step hT rfl rfl rfl (by first | exact True.intro | omega | exact sd) ?_ | refine AWk_step hT rfl rfl (by first | exact True.intro | omega | exact sd) ?_ | refine AWk_step0 hT rfl (by first | exact True.intro | omega | exact sd) ?_ | refine AWd_nil ?_ | refine AWk_nil ?_ | refine AWd_gstep hT rfl rfl rfl rfl rfl (by intro hg; first | exact ⟨True.intro, True.intro⟩ | exact sg hg) ?_ | refine AWk_gstep hT rfl rfl rfl rfl (by intro hg; first | exact ⟨True.intro, True.intro⟩ | exact sg hg) ?_ | refine AW_seq ?_ | refine AW_region ?_ | refine AW_draw mixed (by kernel_rfl) ?_ | refine AW_block ?_ | refine AW_skip ?_ | refine AW_exit ?_ | refine AW_ret ?_)
      exact ret_exact (r := .tup [.d (.int .i64 (byteAt b p : Int)), .d (.int .i64 0)]) rfl (AV.le.tup ⟨AV.le.eq (congrArg (fun z => AV.d (.int .i64 z)) hw0), .refl _, trivial⟩) rfl rfl rfl rfl ⟨rfl, by rw [hwr]; rfl⟩
    · have h2' : ¬ byteAt b p < 128 := by rw [hw0] at h2; simp at h2; omega
      rw [if_neg h2']
      repeat (first | refine AWd_step hT rfl rfl rfl (by first | exact True.intro | omega | exact sd) ?_ | refine AWk_step hT rfl rfl (by first | exact True.intro | omega | exact sd) ?_ | refine AWk_step0 hT rfl (by first | exact True.intro | omega | exact sd) ?_ | refine AWd_nil ?_ | refine AWk_nil ?_ | refine AWd_gstep hT rfl rfl rfl rfl rfl (by intro hg; first | exact ⟨True.intro, True.intro⟩ | exact sg hg) ?_ | refine AWk_gstep hT rfl rfl rfl rfl (by intro hg; first | exact ⟨True.intro, True.intro⟩ | exact sg hg) ?_ | refine AW_seq ?_ | refine AW_region ?_ | refine AW_draw mixed (by kernel_rfl) ?_ | refine AW_block ?_ | refine AW_skip ?_ | refine AW_exit ?_ | refine AW_ret ?_)
      refine AW_condL rfl (fun h3 => ?_) (fun h3 => ?_)
      · have h3' : 132 < byteAt b p := by rw [hw0] at h3; simp at h3; omega
        rw [if_pos (.inl h3')]
        repeat (first | refine AWd_step hT rfl rfl rfl (by first | exact True.intro | omega | exact sd) ?_ | refine AWk_step hT rfl rfl (by first | exact True.intro | omega | exact sd) ?_ | refine AWk_step0 hT rfl (by first | exact True.intro | omega | exact sd) ?_ | refine AWd_nil ?_ | refine AWk_nil ?_ | refine AWd_gstep hT rfl rfl rfl rfl rfl (by intro hg; first | exact ⟨True.intro, True.intro⟩ | exact sg hg) ?_ | refine AWk_gstep hT rfl rfl rfl rfl (by intro hg; first | exact ⟨True.intro, True.intro⟩ | exact sg hg) ?_ | refine AW_seq ?_ | refine AW_region ?_ | refine AW_draw mixed (by kernel_rfl) ?_ | refine AW_block ?_ | refine AW_skip ?_ | refine AW_exit ?_ | refine AW_ret ?_)
        refine AW_condL rfl (fun h4 => ?_) (fun h4 => ?_)
        · repeat (first | refine AWd_step hT rfl rfl rfl (by first | exact True.intro | omega | exact sd) ?_ | refine AWk_step hT rfl rfl (by first | exact True.intro | omega | exact sd) ?_ | refine AWk_step0 hT rfl (by first | exact True.intro | omega | exact sd) ?_ | refine AWd_nil ?_ | refine AWk_nil ?_ | refine AWd_gstep hT rfl rfl rfl rfl rfl (by intro hg; first | exact ⟨True.intro, True.intro⟩ | exact sg hg) ?_ | refine AWk_gstep hT rfl rfl rfl rfl (by intro hg; first | exact ⟨True.intro, True.intro⟩ | exact sg hg) ?_ | refine AW_seq ?_ | refine AW_region ?_ | refine AW_draw mixed (by kernel_rfl) ?_ | refine AW_block ?_ | refine AW_skip ?_ | refine AW_exit ?_ | refine AW_ret ?_)
          exact ret_exact rfl (.refl _) rfl rfl rfl rfl ⟨rfl, by rw [hwr]; rfl⟩
        · exact absurd (h3.symm.trans h4) (by simp)
      · have h3' : ¬ 132 < byteAt b p := by rw [hw0] at h3; simp at h3; omega
        repeat (first | refine AWd_step hT rfl rfl rfl (by first | exact True.intro | omega | exact sd) ?_ | refine AWk_step hT rfl rfl (by first | exact True.intro | omega | exact sd) ?_ | refine AWk_step0 hT rfl (by first | exact True.intro | omega | exact sd) ?_ | refine AWd_nil ?_ | refine AWk_nil ?_ | refine AWd_gstep hT rfl rfl rfl rfl rfl (by intro hg; first | exact ⟨True.intro, True.intro⟩ | exact sg hg) ?_ | refine AWk_gstep hT rfl rfl rfl rfl (by intro hg; first | exact ⟨True.intro, True.intro⟩ | exact sg hg) ?_ | refine AW_seq ?_ | refine AW_region ?_ | refine AW_draw mixed (by kernel_rfl) ?_ | refine AW_block ?_ | refine AW_skip ?_ | refine AW_exit ?_ | refine AW_ret ?_)
        refine AW_condL rfl (fun h4 => ?_) (fun h4 => ?_)
        · have h4' : byteAt b p = 128 ∧ op = false := by rw [hw0] at h4; simp at h4; exact ⟨by omega, h4.2⟩
          rw [if_pos (.inr h4')]
          repeat (first | refine AWd_step hT rfl rfl rfl (by first | exact True.intro | omega | exact sd) ?_ | refine AWk_step hT rfl rfl (by first | exact True.intro | omega | exact sd) ?_ | refine AWk_step0 hT rfl (by first | exact True.intro | omega | exact sd) ?_ | refine AWd_nil ?_ | refine AWk_nil ?_ | refine AWd_gstep hT rfl rfl rfl rfl rfl (by intro hg; first | exact ⟨True.intro, True.intro⟩ | exact sg hg) ?_ | refine AWk_gstep hT rfl rfl rfl rfl (by intro hg; first | exact ⟨True.intro, True.intro⟩ | exact sg hg) ?_ | refine AW_seq ?_ | refine AW_region ?_ | refine AW_draw mixed (by kernel_rfl) ?_ | refine AW_block ?_ | refine AW_skip ?_ | refine AW_exit ?_ | refine AW_ret ?_)
          exact ret_exact rfl (.refl _) rfl rfl rfl rfl ⟨rfl, by rw [hwr]; rfl⟩
        · have h4' : ¬ (byteAt b p = 128 ∧ op = false) := by rintro ⟨ha, hb'⟩; rw [hw0, ha, hb'] at h4; simp at h4
          rw [if_neg (fun hh => hh.elim h3' h4')]
          repeat (first | refine AWd_step hT rfl rfl rfl (by first | exact True.intro | omega | exact sd) ?_ | refine AWk_step hT rfl rfl (by first | exact True.intro | omega | exact sd) ?_ | refine AWk_step0 hT rfl (by first | exact True.intro | omega | exact sd) ?_ | refine AWd_nil ?_ | refine AWk_nil ?_ | refine AWd_gstep hT rfl rfl rfl rfl rfl (by intro hg; first | exact ⟨True.intro, True.intro⟩ | exact sg hg) ?_ | refine AWk_gstep hT rfl rfl rfl rfl (by intro hg; first | exact ⟨True.intro, True.intro⟩ | exact sg hg) ?_ | refine AW_seq ?_ | refine AW_region ?_ | refine AW_draw mixed (by kernel_rfl) ?_ | refine AW_block ?_ | refine AW_skip ?_ | refine AW_exit ?_ | refine AW_ret ?_)
          refine AW_condL rfl (fun h5 => ?_) (fun h5 => ?_)
          · have h5' : byteAt b p = 128 := by rw [hw0] at h5; simp at h5; omega
            rw [if_pos h5']
            repeat (first | refine AWd_step hT rfl rfl rfl (by first | exact True.intro | omega | exact sd) ?_ | refine AWk_step hT rfl rfl (by first | exact True.intro | omega | exact sd) ?_ | refine AWk_step0 hT rfl (by first | exact True.intro | omega | exact sd) ?_ | refine AWd_nil ?_ | refine AWk_nil ?_ | refine AWd_gstep hT rfl rfl rfl rfl rfl (by intro hg; first | exact ⟨True.intro, True.intro⟩ | exact sg hg) ?_ | refine AWk_gstep hT rfl rfl rfl rfl (by intro hg; first | exact ⟨True.intro, True.intro⟩ | exact sg hg) ?_ | refine AW_seq ?_ | refine AW_region ?_ | refine AW_draw mixed (by kernel_rfl) ?_ | refine AW_block ?_ | refine AW_skip ?_ | refine AW_exit ?_ | refine AW_ret ?_)
            exact ret_exact rfl (.refl _) rfl rfl rfl rfl ⟨rfl, by rw [hwr]; rfl⟩
          · have h5' : ¬ byteAt b p = 128 := by rw [hw0] at h5; simp at h5; omega
            rw [if_neg h5']
            have hk1 : 1 ≤ byteAt b p % 16 ∧ byteAt b p % 16 ≤ 4 := by omega
            generalize hks : byteAt b p % 16 = ks at hand hk1
            repeat (first | refine AWd_step hT rfl rfl rfl (by first | exact True.intro | omega | exact sd) ?_ | refine AWk_step hT rfl rfl (by first | exact True.intro | omega | exact sd) ?_ | refine AWk_step0 hT rfl (by first | exact True.intro | omega | exact sd) ?_ | refine AWd_nil ?_ | refine AWk_nil ?_ | refine AWd_gstep hT rfl rfl rfl rfl rfl (by intro hg; first | exact ⟨True.intro, True.intro⟩ | exact sg hg) ?_ | refine AWk_gstep hT rfl rfl rfl rfl (by intro hg; first | exact ⟨True.intro, True.intro⟩ | exact sg hg) ?_ | refine AW_seq ?_ | refine AW_region ?_ | refine AW_draw mixed (by kernel_rfl) ?_ | refine AW_block ?_ | refine AW_skip ?_ | refine AW_exit ?_ | refine AW_ret ?_)
            rw [hand]
            have hws : IntKind.i64.wrap ((e : Int) - IntKind.i64.wrap ((p : Int) + 1)) = (e : Int) - ((p + 1 : Nat) : Int) := by rw [hwr, wrap_id (by omega)]
            refine AW_condL rfl (fun h6 => ?_) (fun h6 => ?_)
            · have h6' : e < p + 1 + ks := by rw [hws] at h6; simp at h6; omega
              rw [if_pos h6']
              repeat (first | refine AWd_step hT rfl rfl rfl (by first | exact True.intro | omega | exact sd) ?_ | refine AWk_step hT rfl rfl (by first | exact True.intro | omega | exact sd) ?_ | refine AWk_step0 hT rfl (by first | exact True.intro | omega | exact sd) ?_ | refine AWd_nil ?_ | refine AWk_nil ?_ | refine AWd_gstep hT rfl rfl rfl rfl rfl (by intro hg; first | exact ⟨True.intro, True.intro⟩ | exact sg hg) ?_ | refine AWk_gstep hT rfl rfl rfl rfl (by intro hg; first | exact ⟨True.intro, True.intro⟩ | exact sg hg) ?_ | refine AW_seq ?_ | refine AW_region ?_ | refine AW_draw mixed (by kernel_rfl) ?_ | refine AW_block ?_ | refine AW_skip ?_ | refine AW_exit ?_ | refine AW_ret ?_)
              exact ret_exact rfl (.refl _) rfl rfl rfl rfl ⟨rfl, by rw [hwr]; rfl⟩
            · have h6' : ¬ e < p + 1 + ks := by rw [hws] at h6; simp at h6; omega
              rw [if_neg h6']
              have hfl := numB_lt b ks (p + 1) 0 0 (by simp)
              have hpw : 256 ^ (0 + ks) ≤ 256 ^ 4 := Nat.pow_le_pow_right (by omega) (by omega)
              generalize hfin : numB b (p + 1) ks 0 = fin at hfl
              repeat (first | refine AWd_step hT rfl rfl rfl (by first | exact True.intro | omega | exact sd) ?_ | refine AWk_step hT rfl rfl (by first | exact True.intro | omega | exact sd) ?_ | refine AWk_step0 hT rfl (by first | exact True.intro | omega | exact sd) ?_ | refine AWd_nil ?_ | refine AWk_nil ?_ | refine AWd_gstep hT rfl rfl rfl rfl rfl (by intro hg; first | exact ⟨True.intro, True.intro⟩ | exact sg hg) ?_ | refine AWk_gstep hT rfl rfl rfl rfl (by intro hg; first | exact ⟨True.intro, True.intro⟩ | exact sg hg) ?_ | refine AW_seq ?_ | refine AW_region ?_ | refine AW_draw mixed (by kernel_rfl) ?_ | refine AW_block ?_ | refine AW_skip ?_ | refine AW_exit ?_ | refine AW_ret ?_)
              refine AW_loopL (ι := Nat × Nat) (fun x => [(0, .ptr 0 0), (9, .d (.int .i64 (ks : Int))), (10, .d (.int .i64 (x.2 : Int))), (61, .d (.int .i64 (ks : Int))), (62, .d (.int .i64 (x.1 : Int)))]) (fun x => [.row (rdr b st (p + 1 + x.1) c)])
                (fun x => x.1 ≤ ks ∧ numB b (p + 1 + x.1) (ks - x.1) x.2 = fin ∧ x.2 < 256 ^ x.1) (fun x => ks - x.1) (0, 0) ⟨by omega, hfin, by simp⟩ ⟨.refl _, .refl _, .refl _, .refl _, .refl _, trivial⟩ ⟨⟨.refl _, AV.le.eq (by rw [hwr]; rfl), .refl _, .refl _, trivial⟩, trivial⟩ ?_
              rintro ⟨i, acc⟩ ⟨hi, hg, hac⟩
              simp only at hi hg hac ⊢
              have hwi : IntKind.i64.wrap ((i : Int) + 1) = ((i + 1 : Nat) : Int) := by rw [wrap_id (by omega)]; simp
              repeat (first | refine AWd_step hT rfl rfl rfl (by first | exact True.intro | omega | exact sd) ?_ | refine AWk_step hT rfl rfl (by first | exact True.intro | omega | exact sd) ?_ | refine AWk_step0 hT rfl (by first | exact True.intro | omega | exact sd) ?_ | refine AWd_nil ?_ | refine AWk_nil ?_ | refine AWd_gstep hT rfl rfl rfl rfl rfl (by intro hg; first | exact ⟨True.intro, True.intro⟩ | exact sg hg) ?_ | refine AWk_gstep hT rfl rfl rfl rfl (by intro hg; first | exact ⟨True.intro, True.intro⟩ | exact sg hg) ?_ | refine AW_seq ?_ | refine AW_region ?_ | refine AW_draw mixed (by kernel_rfl) ?_ | refine AW_block ?_ | refine AW_skip ?_ | refine AW_exit ?_ | refine AW_ret ?_)
              refine AW_condL rfl (fun h7 => ?_) (fun h7 => ?_)
              · have h7' : i < ks := by simpa using h7
                have hxi := byteAt_lt b (p + 1 + i)
                have hwp : IntKind.i64.wrap (((p + 1 + i : Nat) : Int) + 1) = ((p + 1 + (i + 1) : Nat) : Int) := by rw [wrap_id (by omega)]; omega
                have hwx : IntKind.i64.wrap (byteAt b (p + 1 + i) : Int) = (byteAt b (p + 1 + i) : Int) := wrap_id (by omega)
                have hel1 : (encB b)[((p + 1 + i : Nat) : Int).toNat]? = some [.int .u8 (byteAt b (p + 1 + i) : Int)] := by rw [Int.toNat_natCast]; exact encB_byte (by omega)
                have hp3 : 256 ^ i ≤ 256 ^ 3 := Nat.pow_le_pow_right (by omega) (by omega)
                have hj : IntKind.i64.wrap ((BitVec.ofInt IntKind.i64.bits (IntKind.i64.wrap ((acc : Int) * 2 ^ min (Int.toNat 8) IntKind.i64.bits)) ||| BitVec.ofInt IntKind.i64.bits (IntKind.i64.wrap (byteAt b (p + 1 + i) : Int))).toNat : Int) = ((acc * 256 + byteAt b (p + 1 + i) : Nat) : Int) := by rw [hwx]; exact joinB (by omega) hxi
                rw [show ks - i = (ks - (i + 1)) + 1 by omega, numB] at hg
                repeat (first | refine AWd_step hT rfl rfl rfl (by first | exact True.intro | omega | exact sd) ?_ | refine AWk_step hT rfl rfl (by first | exact True.intro | omega | exact sd) ?_ | refine AWk_step0 hT rfl (by first | exact True.intro | omega | exact sd) ?_ | refine AWd_nil ?_ | refine AWk_nil ?_ | refine AWd_gstep hT rfl rfl rfl rfl rfl (by intro hg; first | exact ⟨True.intro, True.intro⟩ | exact sg hg) ?_ | refine AWk_gstep hT rfl rfl rfl rfl (by intro hg; first | exact ⟨True.intro, True.intro⟩ | exact sg hg) ?_ | refine AW_seq ?_ | refine AW_region ?_ | refine AW_draw mixed (by kernel_rfl) ?_ | refine AW_block ?_ | refine AW_skip ?_ | refine AW_exit ?_ | refine AW_ret ?_)
                refine AWd_op (OpS_of_pure (indexAddr_ok hT rfl rfl rfl rfl (by omega) hel1)) rfl rfl ?_
                repeat (first | refine AWd_step hT rfl rfl rfl (by first | exact True.intro | omega | exact sd) ?_ | refine AWk_step hT rfl rfl (by first | exact True.intro | omega | exact sd) ?_ | refine AWk_step0 hT rfl (by first | exact True.intro | omega | exact sd) ?_ | refine AWd_nil ?_ | refine AWk_nil ?_ | refine AWd_gstep hT rfl rfl rfl rfl rfl (by intro hg; first | exact ⟨True.intro, True.intro⟩ | exact sg hg) ?_ | refine AWk_gstep hT rfl rfl rfl rfl (by intro hg; first | exact ⟨True.intro, True.intro⟩ | exact sg hg) ?_ | refine AW_seq ?_ | refine AW_region ?_ | refine AW_draw mixed (by kernel_rfl) ?_ | refine AW_block ?_ | refine AW_skip ?_ | refine AW_exit ?_ | refine AW_ret ?_)
                exact ⟨(i + 1, acc * 256 + byteAt b (p + 1 + i)), ⟨by simp only; omega, hg, by simp only; rw [Nat.pow_succ]; omega⟩, by simp only; omega, ⟨.refl _, .refl _, AV.le.eq (congrArg (fun z => AV.d (.int .i64 z)) hj), .refl _, AV.le.eq (congrArg (fun z => AV.d (.int .i64 z)) hwi), trivial⟩, ⟨⟨.refl _, AV.le.eq (congrArg (fun z => AV.d (.int .i64 z)) hwp), .refl _, .refl _, trivial⟩, trivial⟩⟩
              · have h7' : i = ks := by simp at h7; omega
                subst h7'
                rw [Nat.sub_self, numB] at hg
                subst hg
                repeat (first | refine AWd_step hT rfl rfl rfl (by first | exact True.intro | omega | exact sd) ?_ | refine AWk_step hT rfl rfl (by first | exact True.intro | omega | exact sd) ?_ | refine AWk_step0 hT rfl (by first | exact True.intro | omega | exact sd) ?_ | refine AWd_nil ?_ | refine AWk_nil ?_ | refine AWd_gstep hT rfl rfl rfl rfl rfl (by intro hg; first | exact ⟨True.intro, True.intro⟩ | exact sg hg) ?_ | refine AWk_gstep hT rfl rfl rfl rfl (by intro hg; first | exact ⟨True.intro, True.intro⟩ | exact sg hg) ?_ | refine AW_seq ?_ | refine AW_region ?_ | refine AW_draw mixed (by kernel_rfl) ?_ | refine AW_block ?_ | refine AW_skip ?_ | refine AW_exit ?_ | refine AW_ret ?_)
                have hws8 : IntKind.i64.wrap (8 * IntKind.i64.wrap ((i : Int) - 1)) = ((8 * (i - 1) : Nat) : Int) := by rw [wrap_id (n := (i : Int) - 1) (by omega), wrap_id (by omega)]; omega
                have hsh : Int.fdiv (acc : Int) (2 ^ min (IntKind.i64.wrap (8 * IntKind.i64.wrap ((i : Int) - 1))).toNat IntKind.i64.bits) = ((acc / 2 ^ (8 * (i - 1)) : Nat) : Int) := by
                  rw [hws8, Int.toNat_natCast, show min (8 * (i - 1)) IntKind.i64.bits = 8 * (i - 1) from Nat.min_eq_left (by show _ ≤ 64; omega)]
                  exact shr_nat acc _
                refine AWk_gstep hT rfl rfl rfl rfl (fun hg => ⟨⟨hg, hg, True.intro⟩, by rw [hws8]; omega⟩) ?_
                repeat (first | refine AWd_step hT rfl rfl rfl (by first | exact True.intro | omega | exact sd) ?_ | refine AWk_step hT rfl rfl (by first | exact True.intro | omega | exact sd) ?_ | refine AWk_step0 hT rfl (by first | exact True.intro | omega | exact sd) ?_ | refine AWd_nil ?_ | refine AWk_nil ?_ | refine AWd_gstep hT rfl rfl rfl rfl rfl (by intro hg; first | exact ⟨True.intro, True.intro⟩ | exact sg hg) ?_ | refine AWk_gstep hT rfl rfl rfl rfl (by intro hg; first | exact ⟨True.intro, True.intro⟩ | exact sg hg) ?_ | refine AW_seq ?_ | refine AW_region ?_ | refine AW_draw mixed (by kernel_rfl) ?_ | refine AW_block ?_ | refine AW_skip ?_ | refine AW_exit ?_ | refine AW_ret ?_)
                refine AW_condL rfl (fun h8 => ?_) (fun h8 => ?_)
                · have h8' : st = true ∧ (acc < 128 ∨ acc / 2 ^ (8 * (i - 1)) = 0) := by
                    rw [hsh] at h8
                    simp only [Bool.and_eq_true, Bool.or_eq_true, decide_eq_true_eq, beq_iff_eq] at h8
                    exact ⟨h8.1, h8.2.imp (fun h => by omega) (fun h => by omega)⟩
                  rw [if_pos h8']
                  repeat (first | refine AWd_step hT rfl rfl rfl (by first | exact True.intro | omega | exact sd) ?_ | refine AWk_step hT rfl rfl (by first | exact True.intro | omega | exact sd) ?_ | refine AWk_step0 hT rfl (by first | exact True.intro | omega | exact sd) ?_ | refine AWd_nil ?_ | refine AWk_nil ?_ | refine AWd_gstep hT rfl rfl rfl rfl rfl (by intro hg; first | exact ⟨True.intro, True.intro⟩ | exact sg hg) ?_ | refine AWk_gstep hT rfl rfl rfl rfl (by intro hg; first | exact ⟨True.intro, True.intro⟩ | exact sg hg) ?_ | refine AW_seq ?_ | refine AW_region ?_ | refine AW_draw mixed (by kernel_rfl) ?_ | refine AW_block ?_ | refine AW_skip ?_ | refine AW_exit ?_ | refine AW_ret ?_)
                  exact ret_exact rfl (.refl _) rfl rfl rfl rfl ⟨rfl, rfl⟩
                · have h8' : ¬ (st = true ∧ (acc < 128 ∨ acc / 2 ^ (8 * (i - 1)) = 0)) := by
                    rintro ⟨g1, g2⟩
                    have : (st && (decide ((acc : Int) < 128) || (Int.fdiv (acc : Int) (2 ^ min (IntKind.i64.wrap (8 * IntKind.i64.wrap ((i : Int) - 1))).toNat IntKind.i64.bits) == 0))) = true := by
                      rw [hsh]
                      simp only [Bool.and_eq_true, Bool.or_eq_true, decide_eq_true_eq, beq_iff_eq]
                      exact ⟨g1, g2.imp (fun h => by omega) (fun h => by omega)⟩
                    exact absurd (this.symm.trans h8) (by simp)
                  rw [if_neg h8']
                  repeat (first | refine AWd_step hT rfl rfl rfl (by first | exact True.intro | omega | exact sd) ?_ | refine AWk_step hT rfl rfl (by first | exact True.intro | omega | exact sd) ?_ | refine AWk_step0 hT rfl (by first | exact True.intro | omega | exact sd) ?_ | refine AWd_nil ?_ | refine AWk_nil ?_ | refine AWd_gstep hT rfl rfl rfl rfl rfl (by intro hg; first | exact ⟨True.intro, True.intro⟩ | exact sg hg) ?_ | refine AWk_gstep hT rfl rfl rfl rfl (by intro hg; first | exact ⟨True.intro, True.intro⟩ | exact sg hg) ?_ | refine AW_seq ?_ | refine AW_region ?_ | refine AW_draw mixed (by kernel_rfl) ?_ | refine AW_block ?_ | refine AW_skip ?_ | refine AW_exit ?_ | refine AW_ret ?_)
                  exact ret_exact rfl (.refl _) rfl rfl rfl rfl ⟨rfl, rfl⟩
end Tdoc
