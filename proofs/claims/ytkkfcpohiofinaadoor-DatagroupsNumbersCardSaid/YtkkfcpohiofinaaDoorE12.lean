/- The reader of objects: tags. -/
import Derived.Test.YtkkfcpohiofinaaDoorE11
import Derived.Test.YtkkfcpohiofinaaDoorR7
set_option linter.unusedVariables false
set_option linter.unusedSimpArgs false
namespace Tdoc
open Go Go.Proofs

def rdr (b : List UInt8) (st : Bool) (p c : Nat) : List AV := [.d (.sl 1 (encB b)), .d (.int .i64 (p : Int)), .d (.bool st), .d (.int .i64 (c : Int))]
theorem low_rdr (k : Nat) (b : List UInt8) (st : Bool) (p c : Nat) : lowL k (rdr b st p c) = true := rfl
theorem lowH_rdr (k : Nat) (b : List UInt8) (st : Bool) (p c : Nat) : lowH k [.row (rdr b st p c)] = true := rfl
def byteAt (b : List UInt8) (i : Nat) : Nat := (b.getD i 0).toNat
theorem byteAt_lt (b : List UInt8) (i : Nat) : byteAt b i < 256 := by unfold byteAt; exact UInt8.toNat_lt _
theorem encB_byte {b : List UInt8} {i : Nat} (h : i < b.length) : (encB b)[i]? = some [.int .u8 (byteAt b i : Int)] := by
  rw [encB_at h]; unfold byteAt; rw [List.getD_eq_getElem?_getD, List.getElem?_eq_getElem h]; rfl

/-- A further byte behind a number. -/
theorem joinB {a x : Nat} (ha : a < 4294967296) (hx : x < 256) :
    IntKind.i64.wrap ((BitVec.ofInt IntKind.i64.bits (IntKind.i64.wrap ((a : Int) * 2 ^ min (Int.toNat 8) IntKind.i64.bits)) ||| BitVec.ofInt IntKind.i64.bits (x : Int)).toNat : Int) = ((a * 256 + x : Nat) : Int) := by
  have h1 : IntKind.i64.wrap ((a : Int) * 2 ^ min (Int.toNat 8) IntKind.i64.bits) = ((a * 256 : Nat) : Int) := by
    show IntKind.i64.wrap ((a : Int) * 256) = _
    rw [wrap_id (by omega)]; omega
  rw [h1, or_nat (by omega) (by omega)]
  have := shl_or a x 8 (by omega)
  rw [show (2 : Nat) ^ 8 = 256 from rfl] at this
  rw [this]

def tagX (b : List UInt8) (e p : Nat) : Int × Int × Nat :=
  if e ≤ p then (0, 6, p)
  else if byteAt b p % 32 = 31 then
    if e ≤ p + 1 then (0, 6, p + 1)
    else if tagOk ((byteAt b p * 256 + byteAt b (p + 1) : Nat) : Int) then (((byteAt b p * 256 + byteAt b (p + 1) : Nat) : Int), 0, p + 2) else (0, 4, p + 2)
  else if tagOk (byteAt b p : Int) then ((byteAt b p : Int), 0, p + 1) else (0, 4, p + 1)

set_option maxHeartbeats 4000000 in
set_option maxRecDepth 100000 in
theorem tag_spec (b : List UInt8) (st : Bool) (e p c : Nat) (hb : b.length ≤ 1000000) (he : e ≤ b.length) (hp : p ≤ e) :
    Spec Tryd.prog 66 [.ptr 0 0, .d (.int .i64 (e : Int))] [.row (rdr b st p c)] (fun r h' => r = .tup [.d (.int .i64 (tagX b e p).1), .d (.int .i64 (tagX b e p).2.1)] ∧ h' = [.row (rdr b st (tagX b e p).2.2 c)]) := by
  have hx := byteAt_lt b p
  have hx1 := byteAt_lt b (p + 1)
  have hw0 : IntKind.i64.wrap (byteAt b p : Int) = (byteAt b p : Int) := wrap_id (by omega)
  have hw1 : IntKind.i64.wrap (byteAt b (p + 1) : Int) = (byteAt b (p + 1) : Int) := wrap_id (by omega)
  have hwr : IntKind.i64.wrap ((p : Int) + 1) = ((p + 1 : Nat) : Int) := by rw [wrap_id (by omega)]; simp
  have hwr2 : IntKind.i64.wrap (IntKind.i64.wrap ((p : Int) + 1) + 1) = ((p + 2 : Nat) : Int) := by rw [hwr, wrap_id (by omega)]; omega
  have hlong : Spec Tryd.prog 59 [.d (.int .i64 (IntKind.i64.wrap (byteAt b p : Int)))] [] (fun r h' => r = .d (.bool ((byteAt b p : Int) % 32 == 31)) ∧ h' = []) := by rw [hw0]; exact long_spec _ (by omega) (by omega)
  refine Spec_of_body hT Tryd.func66 rfl rfl rfl rfl ?_
  intro E hE
  unfold tagX
  repeat (first | refine AWd_step hT rfl rfl rfl (by first | exact True.intro | omega | exact sd) ?_ | refine AWk_step hT rfl rfl (by first | exact True.intro | omega | exact sd) ?_ | refine AWk_step0 hT rfl (by first | exact True.intro | omega | exact sd) ?_ | refine AWd_nil ?_ | refine AWk_nil ?_ | refine AWd_gstep hT rfl rfl rfl rfl rfl (by intro hg; first | exact ⟨True.intro, True.intro⟩ | exact sg hg) ?_ | refine AWk_gstep hT rfl rfl rfl rfl (by intro hg; first | exact ⟨True.intro, True.intro⟩ | exact sg hg) ?_ | refine AW_seq ?_ | refine AW_region ?_ | refine AW_draw mixed (by kernel_rfl) ?_ | refine AW_block ?_ | refine AW_skip ?_ | refine AW_exit ?_ | refine AW_ret ?_)
  refine AW_condL rfl (fun h1 => ?_) (fun h1 => ?_)
  · have h1' : e ≤ p := by simpa using h1
    rw [if_pos h1']
    repeat (first | refine AWd_step hT rfl rfl rfl (by first | exact True.intro | omega | exact sd) ?_ | refine AWk_step hT rfl rfl (by first | exact True.intro | omega | exact sd) ?_ | refine AWk_step0 hT rfl (by first | exact True.intro | omega | exact sd) ?_ | refine AWd_nil ?_ | refine AWk_nil ?_ | refine AWd_gstep hT rfl rfl rfl rfl rfl (by intro hg; first | exact ⟨True.intro, True.intro⟩ | exact sg hg) ?_ | refine AWk_gstep hT rfl rfl rfl rfl (by intro hg; first | exact ⟨True.intro, True.intro⟩ | exact sg hg) ?_ | refine AW_seq ?_ | refine AW_region ?_ | refine AW_draw mixed (by kernel_rfl) ?_ | refine AW_block ?_ | refine AW_skip ?_ | refine AW_exit ?_ | refine AW_ret ?_)
    exact ret_exact rfl (.refl _) rfl rfl rfl rfl ⟨rfl, rfl⟩
  · have h1' : ¬ e ≤ p := by simpa using h1
    have hel : (encB b)[((p : Int)).toNat]? = some [.int .u8 (byteAt b p : Int)] := encB_byte (by omega)
    rw [if_neg h1']
    repeat (first | refine AWd_step hT rfl rfl rfl (by first | exact True.intro | omega | exact sd) ?_ | refine AWk_step hT rfl rfl (by first | exact True.intro | omega | exact sd) ?_ | refine AWk_step0 hT rfl (by first | exact True.intro | omega | exact sd) ?_ | refine AWd_nil ?_ | refine AWk_nil ?_ | refine AWd_gstep hT rfl rfl rfl rfl rfl (by intro hg; first | exact ⟨True.intro, True.intro⟩ | exact sg hg) ?_ | refine AWk_gstep hT rfl rfl rfl rfl (by intro hg; first | exact ⟨True.intro, True.intro⟩ | exact sg hg) ?_ | refine AW_seq ?_ | refine AW_region ?_ | refine AW_draw mixed (by kernel_rfl) ?_ | refine AW_block ?_ | refine AW_skip ?_ | refine AW_exit ?_ | refine AW_ret ?_)
    refine AWd_op (OpS_of_pure (indexAddr_ok hT rfl rfl rfl rfl (by omega) hel)) rfl rfl ?_
    repeat (first | refine AWd_step hT rfl rfl rfl (by first | exact True.intro | omega | exact sd) ?_ | refine AWk_step hT rfl rfl (by first | exact True.intro | omega | exact sd) ?_ | refine AWk_step0 hT rfl (by first | exact True.intro | omega | exact sd) ?_ | refine AWd_nil ?_ | refine AWk_nil ?_ | refine AWd_gstep hT rfl rfl rfl rfl rfl (by intro hg; first | exact ⟨True.intro, True.intro⟩ | exact sg hg) ?_ | refine AWk_gstep hT rfl rfl rfl rfl (by intro hg; first | exact ⟨True.intro, True.intro⟩ | exact sg hg) ?_ | refine AW_seq ?_ | refine AW_region ?_ | refine AW_draw mixed (by kernel_rfl) ?_ | refine AW_block ?_ | refine AW_skip ?_ | refine AW_exit ?_ | refine AW_ret ?_)
    refine AWk_op (callS0 rfl rfl hlong rfl rfl rfl) rfl ?_
    repeat (first | refine AWd_step hT rfl rfl rfl (by first | exact True.intro | omega | exact sd) ?_ | refine AWk_step hT rfl rfl (by first | exact True.intro | omega | exact sd) ?_ | refine AWk_step0 hT rfl (by first | exact True.intro | omega | exact sd) ?_ | refine AWd_nil ?_ | refine AWk_nil ?_ | refine AWd_gstep hT rfl rfl rfl rfl rfl (by intro hg; first | exact ⟨True.intro, True.intro⟩ | exact sg hg) ?_ | refine AWk_gstep hT rfl rfl rfl rfl (by intro hg; first | exact ⟨True.intro, True.intro⟩ | exact sg hg) ?_ | refine AW_seq ?_ | refine AW_region ?_ | refine AW_draw mixed (by kernel_rfl) ?_ | refine AW_block ?_ | refine AW_skip ?_ | refine AW_exit ?_ | refine AW_ret ?_)
    refine AW_condL rfl (fun h2 => ?_) (fun h2 => ?_)
    · have h2' : byteAt b p % 32 = 31 := by simp at h2; omega
      rw [if_pos h2']
      repeat (first | refine AWd_step hT rfl rfl rfl (by first | exact True.intro | omega | exact sd) ?_ | refine AWk_step hT rfl rfl (by first | exact True.intro | omega | exact sd) ?_ | refine AWk_step0 hT rfl (by first | exact True.intro | omega | exact sd) ?_ | refine AWd_nil ?_ | refine AWk_nil ?_ | refine AWd_gstep hT rfl rfl rfl rfl rfl (by intro hg; first | exact ⟨True.intro, True.intro⟩ | exact sg hg) ?_ | refine AWk_gstep hT rfl rfl rfl rfl (by intro hg; first | exact ⟨True.intro, True.intro⟩ | exact sg hg) ?_ | refine AW_seq ?_ | refine AW_region ?_ | refine AW_draw mixed (by kernel_rfl) ?_ | refine AW_block ?_ | refine AW_skip ?_ | refine AW_exit ?_ | refine AW_ret ?_)
      refine AW_condL rfl (fun h3 => ?_) (fun h3 => ?_)
      · have h3' : e ≤ p + 1 := by rw [hwr] at h3; simp at h3; omega
        rw [if_pos h3']
        repeat (first | refine AWd_step hT rfl rfl rfl (by first | exact True.intro | omega | exact sd) ?_ | refine AWk_step hT rfl rfl (by first | exact True.intro | omega | exact sd) ?_ | refine AWk_step0 hT rfl (by first | exact True.intro | omega | exact sd) ?_ | refine AWd_nil ?_ | refine AWk_nil ?_ | refine AWd_gstep hT rfl rfl rfl rfl rfl (by intro hg; first | exact ⟨True.intro, True.intro⟩ | exact sg hg) ?_ | refine AWk_gstep hT rfl rfl rfl rfl (by intro hg; first | exact ⟨True.intro, True.intro⟩ | exact sg hg) ?_ | refine AW_seq ?_ | refine AW_region ?_ | refine AW_draw mixed (by kernel_rfl) ?_ | refine AW_block ?_ | refine AW_skip ?_ | refine AW_exit ?_ | refine AW_ret ?_)
        exact ret_exact rfl (.refl _) rfl rfl rfl rfl ⟨rfl, by rw [hwr]; rfl⟩
      · have h3' : ¬ e ≤ p + 1 := by rw [hwr] at h3; simp at h3; omega
        have hel1 : (encB b)[(IntKind.i64.wrap ((p : Int) + 1)).toNat]? = some [.int .u8 (byteAt b (p + 1) : Int)] := by rw [hwr]; exact encB_byte (by omega)
        rw [if_neg h3']
        repeat (first | refine AWd_step hT rfl rfl rfl (by first | exact True.intro | omega | exact sd) ?_ | refine AWk_step hT rfl rfl (by first | exact True.intro | omega | exact sd) ?_ | refine AWk_step0 hT rfl (by first | exact True.intro | omega | exact sd) ?_ | refine AWd_nil ?_ | refine AWk_nil ?_ | refine AWd_gstep hT rfl rfl rfl rfl rfl (by intro hg; first | exact ⟨True.intro, True.intro⟩ | exact sg hg) ?_ | refine AWk_gstep hT rfl rfl rfl rfl (by intro hg; first | exact ⟨True.intro, True.intro⟩ | exact sg hg) ?_ | refine AW_seq ?_ | refine AW_region ?_ | refine AW_draw mixed (by kernel_rfl) ?_ | refine AW_block ?_ | refine AW_skip ?_ | refine AW_exit ?_ | refine AW_ret ?_)
        refine AWd_op (OpS_of_pure (indexAddr_ok hT rfl rfl rfl rfl (by rw [hwr]; omega) hel1)) rfl rfl ?_
        repeat (first | refine AWd_step hT rfl rfl rfl (by first | exact True.intro | omega | exact sd) ?_ | refine AWk_step hT rfl rfl (by first | exact True.intro | omega | exact sd) ?_ | refine AWk_step0 hT rfl (by first | exact True.intro | omega | exact sd) ?_ | refine AWd_nil ?_ | refine AWk_nil ?_ | refine AWd_gstep hT rfl rfl rfl rfl rfl (by intro hg; first | exact ⟨True.intro, True.intro⟩ | exact sg hg) ?_ | refine AWk_gstep hT rfl rfl rfl rfl (by intro hg; first | exact ⟨True.intro, True.intro⟩ | exact sg hg) ?_ | refine AW_seq ?_ | refine AW_region ?_ | refine AW_draw mixed (by kernel_rfl) ?_ | refine AW_block ?_ | refine AW_skip ?_ | refine AW_exit ?_ | refine AW_ret ?_)
        have hj : IntKind.i64.wrap ((BitVec.ofInt IntKind.i64.bits (IntKind.i64.wrap (IntKind.i64.wrap (byteAt b p : Int) * 2 ^ min (Int.toNat 8) IntKind.i64.bits)) ||| BitVec.ofInt IntKind.i64.bits (IntKind.i64.wrap (byteAt b (p + 1) : Int))).toNat : Int) = ((byteAt b p * 256 + byteAt b (p + 1) : Nat) : Int) := by rw [hw0, hw1]; exact joinB (by omega) hx1
        generalize hvv : IntKind.i64.wrap ((BitVec.ofInt IntKind.i64.bits (IntKind.i64.wrap (IntKind.i64.wrap (byteAt b p : Int) * 2 ^ min (Int.toNat 8) IntKind.i64.bits)) ||| BitVec.ofInt IntKind.i64.bits (IntKind.i64.wrap (byteAt b (p + 1) : Int))).toNat : Int) = vv at hj
        have hvalid : Spec Tryd.prog 50 [.d (.int .i64 vv)] [] (fun r h' => r = .d (.bool (tagOk vv)) ∧ h' = []) := Valid_spec vv (by omega)
        rw [← hj]
        generalize tagOk vv = ok at hvalid
        refine AWk_op (callS0 rfl rfl hvalid rfl rfl rfl) rfl ?_
        repeat (first | refine AWd_step hT rfl rfl rfl (by first | exact True.intro | omega | exact sd) ?_ | refine AWk_step hT rfl rfl (by first | exact True.intro | omega | exact sd) ?_ | refine AWk_step0 hT rfl (by first | exact True.intro | omega | exact sd) ?_ | refine AWd_nil ?_ | refine AWk_nil ?_ | refine AWd_gstep hT rfl rfl rfl rfl rfl (by intro hg; first | exact ⟨True.intro, True.intro⟩ | exact sg hg) ?_ | refine AWk_gstep hT rfl rfl rfl rfl (by intro hg; first | exact ⟨True.intro, True.intro⟩ | exact sg hg) ?_ | refine AW_seq ?_ | refine AW_region ?_ | refine AW_draw mixed (by kernel_rfl) ?_ | refine AW_block ?_ | refine AW_skip ?_ | refine AW_exit ?_ | refine AW_ret ?_)
        refine AW_condL rfl (fun h4 => ?_) (fun h4 => ?_)
        · have h4' : ¬ ok = true := by simpa using h4
          rw [if_neg h4']
          repeat (first | refine AWd_step hT rfl rfl rfl (by first | exact True.intro | omega | exact sd) ?_ | refine AWk_step hT rfl rfl (by first | exact True.intro | omega | exact sd) ?_ | refine AWk_step0 hT rfl (by first | exact True.intro | omega | exact sd) ?_ | refine AWd_nil ?_ | refine AWk_nil ?_ | refine AWd_gstep hT rfl rfl rfl rfl rfl (by intro hg; first | exact ⟨True.intro, True.intro⟩ | exact sg hg) ?_ | refine AWk_gstep hT rfl rfl rfl rfl (by intro hg; first | exact ⟨True.intro, True.intro⟩ | exact sg hg) ?_ | refine AW_seq ?_ | refine AW_region ?_ | refine AW_draw mixed (by kernel_rfl) ?_ | refine AW_block ?_ | refine AW_skip ?_ | refine AW_exit ?_ | refine AW_ret ?_)
          exact ret_exact rfl (.refl _) rfl rfl rfl rfl ⟨rfl, by rw [hwr2]; rfl⟩
        · have h4' : ok = true := by simpa using h4
          rw [if_pos h4']
          repeat (first | refine AWd_step hT rfl rfl rfl (by first | exact True.intro | omega | exact sd) ?_ | refine AWk_step hT rfl rfl (by first | exact True.intro | omega | exact sd) ?_ | refine AWk_step0 hT rfl (by first | exact True.intro | omega | exact sd) ?_ | refine AWd_nil ?_ | refine AWk_nil ?_ | refine AWd_gstep hT rfl rfl rfl rfl rfl (by intro hg; first | exact ⟨True.intro, True.intro⟩ | exact sg hg) ?_ | refine AWk_gstep hT rfl rfl rfl rfl (by intro hg; first | exact ⟨True.intro, True.intro⟩ | exact sg hg) ?_ | refine AW_seq ?_ | refine AW_region ?_ | refine AW_draw mixed (by kernel_rfl) ?_ | refine AW_block ?_ | refine AW_skip ?_ | refine AW_exit ?_ | refine AW_ret ?_)
          exact ret_exact rfl (.refl _) rfl rfl rfl rfl ⟨rfl, by rw [hwr2]; rfl⟩
    · have h2' : ¬ byteAt b p % 32 = 31 := by simp at h2; omega
      have hvalid : Spec Tryd.prog 50 [.d (.int .i64 (IntKind.i64.wrap (byteAt b p : Int)))] [] (fun r h' => r = .d (.bool (tagOk (byteAt b p : Int))) ∧ h' = []) := by rw [hw0]; exact Valid_spec _ (by omega)
      rw [if_neg h2']
      generalize tagOk (byteAt b p : Int) = ok at hvalid
      repeat (first | refine AWd_step hT rfl rfl rfl (by first | exact True.intro | omega | exact sd) ?_ | refine AWk_step hT rfl rfl (by first | exact True.intro | omega | exact sd) ?_ | refine AWk_step0 hT rfl (by first | exact True.intro | omega | exact sd) ?_ | refine AWd_nil ?_ | refine AWk_nil ?_ | refine AWd_gstep hT rfl rfl rfl rfl rfl (by intro hg; first | exact ⟨True.intro, True.intro⟩ | exact sg hg) ?_ | refine AWk_gstep hT rfl rfl rfl rfl (by intro hg; first | exact ⟨True.intro, True.intro⟩ | exact sg hg) ?_ | refine AW_seq ?_ | refine AW_region ?_ | refine AW_draw mixed (by kernel_rfl) ?_ | refine AW_block ?_ | refine AW_skip ?_ | refine AW_exit ?_ | refine AW_ret ?_)
      refine AWk_op (callS0 rfl rfl hvalid rfl rfl rfl) rfl ?_
      repeat (first | refine AWd_step hT rfl rfl rfl (by first | exact True.intro | omega | exact sd) ?_ | refine AWk_step hT rfl rfl (by first | exact True.intro | omega | exact sd) ?_ | refine AWk_step0 hT rfl (by first | exact True.intro | omega | exact sd) ?_ | refine AWd_nil ?_ | refine AWk_nil ?_ | refine AWd_gstep hT rfl rfl rfl rfl rfl (by intro hg; first | exact ⟨True.intro, True.intro⟩ | exact sg hg) ?_ | refine AWk_gstep hT rfl rfl rfl rfl (by intro hg; first | exact ⟨True.intro, True.intro⟩ | exact sg hg) ?_ | refine AW_seq ?_ | refine AW_region ?_ | refine AW_draw mixed (by kernel_rfl) ?_ | refine AW_block ?_ | refine AW_skip ?_ | refine AW_exit ?_ | refine AW_ret ?_)
      refine AW_condL rfl (fun h4 => ?_) (fun h4 => ?_)
      · have h4' : ¬ ok = true := by simpa using h4
        rw [if_neg h4']
        repeat (first | refine AWd_step hT rfl rfl rfl (by first | exact True.intro | omega | exact sd) ?_ | refine AWk_step hT rfl rfl (by first | exact True.intro | omega | exact sd) ?_ | refine AWk_step0 hT rfl (by first | exact True.intro | omega | exact sd) ?_ | refine AWd_nil ?_ | refine AWk_nil ?_ | refine AWd_gstep hT rfl rfl rfl rfl rfl (by intro hg; first | exact ⟨True.intro, True.intro⟩ | exact sg hg) ?_ | refine AWk_gstep hT rfl rfl rfl rfl (by intro hg; first | exact ⟨True.intro, True.intro⟩ | exact sg hg) ?_ | refine AW_seq ?_ | refine AW_region ?_ | refine AW_draw mixed (by kernel_rfl) ?_ | refine AW_block ?_ | refine AW_skip ?_ | refine AW_exit ?_ | refine AW_ret ?_)
        exact ret_exact rfl (.refl _) rfl rfl rfl rfl ⟨rfl, by rw [hwr]; rfl⟩
      · have h4' : ok = true := by simpa using h4
        rw [if_pos h4']
        repeat (first | refine AWd_step hT rfl rfl rfl (by first | exact True.intro | omega | exact sd) ?_ | refine AWk_step hT rfl rfl (by first | exact True.intro | omega | exact sd) ?_ | refine AWk_step0 hT rfl (by first | exact True.intro | omega | exact sd) ?_ | refine AWd_nil ?_ | refine AWk_nil ?_ | refine AWd_gstep hT rfl rfl rfl rfl rfl (by intro hg; first | exact ⟨True.intro, True.intro⟩ | exact sg hg) ?_ | refine AWk_gstep hT rfl rfl rfl rfl (by intro hg; first | exact ⟨True.intro, True.intro⟩ | exact sg hg) ?_ | refine AW_seq ?_ | refine AW_region ?_ | refine AW_draw mixed (by kernel_rfl) ?_ | refine AW_block ?_ | refine AW_skip ?_ | refine AW_exit ?_ | refine AW_ret ?_)
        exact ret_exact (r := .tup [.d (.int .i64 (byteAt b p : Int)), .d (.int .i64 0)]) rfl (AV.le.tup ⟨AV.le.eq (congrArg (fun z => AV.d (.int .i64 z)) hw0), .refl _, trivial⟩) rfl rfl rfl rfl ⟨rfl, by rw [hwr]; rfl⟩
end Tdoc
