/- The reader of objects: one object; Parse. -/
import Derived.Test.YtkkfcpohiofinaaDoorE15
set_option linter.unusedVariables false
set_option linter.unusedSimpArgs false
namespace Tdoc
open Go Go.Proofs

theorem tagX_ok (b : List UInt8) {e p : Nat} (hp : p ≤ e) : p ≤ (tagX b e p).2.2 ∧ (tagX b e p).2.2 ≤ e ∧ ((tagX b e p).2.1 = 0 → p < (tagX b e p).2.2) ∧ 0 ≤ (tagX b e p).1 ∧ (tagX b e p).1 < 65536 := by
  have hx := byteAt_lt b p
  have hx1 := byteAt_lt b (p + 1)
  unfold tagX
  split
  · exact ⟨Nat.le_refl _, hp, fun h => by simp at h, by simp, by simp⟩
  · split
    · split
      · exact ⟨by show p ≤ p + 1; omega, by show p + 1 ≤ e; omega, fun h => by simp at h, by simp, by simp⟩
      · split
        · exact ⟨by show p ≤ p + 2; omega, by show p + 2 ≤ e; omega, fun h => by show p < p + 2; omega, by show (0 : Int) ≤ ((_ : Nat) : Int); omega, by show ((_ : Nat) : Int) < 65536; omega⟩
        · exact ⟨by show p ≤ p + 2; omega, by show p + 2 ≤ e; omega, fun h => by simp at h, by simp, by simp⟩
    · split
      · exact ⟨by show p ≤ p + 1; omega, by show p + 1 ≤ e; omega, fun h => by show p < p + 1; omega, by show (0 : Int) ≤ ((_ : Nat) : Int); omega, by show ((_ : Nat) : Int) < 65536; omega⟩
      · exact ⟨by show p ≤ p + 1; omega, by show p + 1 ≤ e; omega, fun h => by simp at h, by simp, by simp⟩

theorem lenX_ok (b : List UInt8) {e p : Nat} (op st : Bool) (hp : p ≤ e) : p ≤ (lenX b e op st p).2.2 ∧ (lenX b e op st p).2.2 ≤ e ∧ ((lenX b e op st p).2.1 = 0 → p < (lenX b e op st p).2.2) ∧ -1 ≤ (lenX b e op st p).1 ∧ (lenX b e op st p).1 < 4294967296 := by
  have hx := byteAt_lt b p
  unfold lenX
  split
  · exact ⟨Nat.le_refl _, hp, fun h => by simp at h, by simp, by simp⟩
  · split
    · exact ⟨by show p ≤ p + 1; omega, by show p + 1 ≤ e; omega, fun h => by show p < p + 1; omega, by show (-1 : Int) ≤ ((_ : Nat) : Int); omega, by show ((_ : Nat) : Int) < _; omega⟩
    · split
      · exact ⟨by show p ≤ p + 1; omega, by show p + 1 ≤ e; omega, fun h => by simp at h, by simp, by simp⟩
      · split
        · exact ⟨by show p ≤ p + 1; omega, by show p + 1 ≤ e; omega, fun h => by show p < p + 1; omega, by simp, by simp⟩
        · split
          · exact ⟨by show p ≤ p + 1; omega, by show p + 1 ≤ e; omega, fun h => by simp at h, by simp, by simp⟩
          · have hk : byteAt b p % 16 ≤ 4 := by omega
            split
            · exact ⟨by show p ≤ p + 1 + _; omega, by show p + 1 + _ ≤ e; omega, fun h => by simp at h, by simp, by simp⟩
            · have h1 := numB_lt b (byteAt b p % 16) (p + 1) 0 0 (by simp)
              have h2 : 256 ^ (0 + byteAt b p % 16) ≤ 256 ^ 4 := Nat.pow_le_pow_right (by omega) (by omega)
              exact ⟨by show p ≤ p + 1 + _; omega, by show p + 1 + _ ≤ e; omega, fun h => by show p < p + 1 + _; omega, by show (-1 : Int) ≤ ((_ : Nat) : Int); omega, by show ((_ : Nat) : Int) < _; omega⟩

def objY (b : List UInt8) (g : Nat → Rd) (e d : Nat) (t : Int) (n : Int × Int × Nat) (c : Nat) : Node × Int × Nat × Nat :=
  if n.2.1 ≠ 0 then (.mk 0 [] [], n.2.1, n.2.2, c)
  else if d > 8 then (.mk 0 [] [], 7, n.2.2, c + 1)
  else if c + 1 > 256 then (.mk 0 [] [], 2, n.2.2, c + 1)
  else if n.1 > (e : Int) - (n.2.2 : Int) then (.mk 0 [] [], 6, n.2.2, c + 1)
  else if n.1 = -1 then (.mk t [] (kidsX b (g e) e (e + 1) n.2.2 (c + 1) []).1, (kidsX b (g e) e (e + 1) n.2.2 (c + 1) []).2)
  else if tagCons t = true then (.mk t [] (loopX (g (n.2.2 + n.1.toNat)) (n.2.2 + n.1.toNat) (e + 1) n.2.2 (c + 1) []).1, (loopX (g (n.2.2 + n.1.toNat)) (n.2.2 + n.1.toNat) (e + 1) n.2.2 (c + 1) []).2)
  else (.mk t ((b.drop n.2.2).take n.1.toNat) [], 0, n.2.2 + n.1.toNat, c + 1)
def objX (b : List UInt8) (st : Bool) : Nat → Nat → Nat → Nat → Nat → Node × Int × Nat × Nat
  | 0, e, d, p, c => (.mk 0 [] [], 7, p, c)
  | k + 1, e, d, p, c =>
    if (tagX b e p).2.1 ≠ 0 then (.mk 0 [] [], (tagX b e p).2.1, (tagX b e p).2.2, c)
    else objY b (fun e' => objX b st k e' (d + 1)) e d (tagX b e p).1 (lenX b e (tagCons (tagX b e p).1 && !st) st (tagX b e p).2.2) c

theorem objX_ok (b : List UInt8) (st : Bool) : ∀ (k e d : Nat), RdOk (objX b st k e d) e
  | 0, e, d => fun p c hp hc => ⟨Nat.le_refl _, hp, by show c ≤ 257; omega, fun h => by simp [objX] at h⟩
  | k + 1, e, d => fun p c hp hc => by
    have h1 := tagX_ok b hp
    rw [objX]
    split
    · rename_i he
      exact ⟨h1.1, h1.2.1, by show c ≤ 257; omega, fun h => absurd h he⟩
    · rename_i he
      have h1' := h1.2.2.1 (by simpa using he)
      have h2 := lenX_ok b (tagCons (tagX b e p).1 && !st) st h1.2.1
      generalize lenX b e (tagCons (tagX b e p).1 && !st) st (tagX b e p).2.2 = n at h2
      obtain ⟨n, e2, q⟩ := n
      simp only at h2
      have hq1 := h2.1
      have hq2 := h2.2.1
      unfold objY
      simp only
      split
      · rename_i he2
        exact ⟨by show p ≤ q; omega, hq2, by show c ≤ 257; omega, fun h => absurd h he2⟩
      · split
        · exact ⟨by show p ≤ q; omega, hq2, by show c + 1 ≤ 257; omega, fun h => by simp at h⟩
        · split
          · exact ⟨by show p ≤ q; omega, hq2, by show c + 1 ≤ 257; omega, fun h => by simp at h⟩
          · split
            · exact ⟨by show p ≤ q; omega, hq2, by show c + 1 ≤ 257; omega, fun h => by simp at h⟩
            · rename_i hn
              split
              · have := kidsX_ok (b := b) (objX_ok b st k e (d + 1)) (e + 1) q (c + 1) [] hq2 (by omega)
                exact ⟨Nat.le_trans (by omega) this.1, this.2.1, this.2.2.1, fun h => ⟨Nat.lt_of_lt_of_le (by omega) this.1, this.2.2.2 h⟩⟩
              · have hle : q + n.toNat ≤ e := by omega
                split
                · have := loopX_ok (objX_ok b st k (q + n.toNat) (d + 1)) (e + 1) q (c + 1) [] (by omega) (by omega)
                  exact ⟨Nat.le_trans (by omega) this.1, Nat.le_trans this.2.1 hle, this.2.2.1, fun h => ⟨Nat.lt_of_lt_of_le (by omega) this.1, this.2.2.2 h⟩⟩
                · exact ⟨by show p ≤ q + n.toNat; omega, hle, by show c + 1 ≤ 257; omega, fun h => ⟨by show p < q + n.toNat; omega, by show c + 1 ≤ 256; omega⟩⟩

set_option maxHeartbeats 16000000 in
set_option maxRecDepth 100000 in
theorem object_spec (b : List UInt8) (st : Bool) (hb : b.length ≤ 1000000) : ∀ (k d e : Nat), e ≤ b.length → d + k = 9 → ObjS b st (objX b st (k + 1) e d) e d := by
  intro k
  induction k using Nat.strongRecOn with
  | _ k ih =>
  intro d e he hdk p c hp hc
  generalize hfin : objX b st (k + 1) e d p c = fin
  rw [objX] at hfin
  have htag := tag_spec b st e p c hb he hp
  have htok := tagX_ok b hp
  generalize tagX b e p = tq at htag htok hfin
  obtain ⟨t, e1, p1⟩ := tq
  simp only at htag htok hfin
  have hcon := Constructed_spec t (by omega)
  have hlen := len_spec b (tagCons t && !st) st e p1 c hb he htok.2.1
  have hlok := lenX_ok b (tagCons t && !st) st htok.2.1
  generalize lenX b e (tagCons t && !st) st p1 = nq at hlen hlok hfin
  obtain ⟨n, e2, q⟩ := nq
  simp only [objY] at hlen hlok hfin
  generalize tagCons t = con at hcon hlen hfin
  have hwc : IntKind.i64.wrap ((c : Int) + 1) = ((c + 1 : Nat) : Int) := by rw [wrap_id (by omega)]; simp
  have hwd : IntKind.i64.wrap ((d : Int) + 1) = ((d + 1 : Nat) : Int) := by rw [wrap_id (by omega)]; simp
  refine Spec_of_body hT Tryd.func65 rfl rfl rfl rfl ?_
  intro E hE
  repeat (first | refine AWd_step hT rfl rfl rfl (by first | exact True.intro | omega | exact sd) ?_ | refine AWk_step hT rfl rfl (by first | exact True.intro | omega | exact sd) ?_ | refine AWk_step0 hT rfl (by first | exact True.intro | omega | exact sd) ?_ | refine AWd_nil ?_ | refine AWk_nil ?_ | refine AWd_gstep hT rfl rfl rfl rfl rfl (by intro hg; first | exact ⟨True.intro, True.intro⟩ | exact sg hg) ?_ | refine AWk_gstep hT rfl rfl rfl rfl (by intro hg; first | exact ⟨True.intro, True.intro⟩ | exact sg hg) ?_ | refine AW_seq ?_ | refine AW_region ?_ | refine AW_draw mixed (by kernel_rfl) ?_ | refine AW_block ?_ | refine AW_skip ?_ | refine AW_exit ?_ | refine AW_ret ?_)
  refine AWk_op (callS1 rfl rfl htag [0] (by decide) rfl rfl rfl rfl rfl rfl rfl) rfl ?_
  repeat (first | refine AWd_step hT rfl rfl rfl (by first | exact True.intro | omega | exact sd) ?_ | refine AWk_step hT rfl rfl (by first | exact True.intro | omega | exact sd) ?_ | refine AWk_step0 hT rfl (by first | exact True.intro | omega | exact sd) ?_ | refine AWd_nil ?_ | refine AWk_nil ?_ | refine AWd_gstep hT rfl rfl rfl rfl rfl (by intro hg; first | exact ⟨True.intro, True.intro⟩ | exact sg hg) ?_ | refine AWk_gstep hT rfl rfl rfl rfl (by intro hg; first | exact ⟨True.intro, True.intro⟩ | exact sg hg) ?_ | refine AW_seq ?_ | refine AW_region ?_ | refine AW_draw mixed (by kernel_rfl) ?_ | refine AW_block ?_ | refine AW_skip ?_ | refine AW_exit ?_ | refine AW_ret ?_)
  refine AW_condL rfl (fun h1 => ?_) (fun h1 => ?_)
  · have h1' : e1 ≠ 0 := by simpa using h1
    rw [if_pos h1'] at hfin
    subst hfin
    repeat (first | refine AWd_step hT rfl rfl rfl (by first | exact True.intro | omega | exact sd) ?_ | refine AWk_step hT rfl rfl (by first | exact True.intro | omega | exact sd) ?_ | refine AWk_step0 hT rfl (by first | exact True.intro | omega | exact sd) ?_ | refine AWd_nil ?_ | refine AWk_nil ?_ | refine AWd_gstep hT rfl rfl rfl rfl rfl (by intro hg; first | exact ⟨True.intro, True.intro⟩ | exact sg hg) ?_ | refine AWk_gstep hT rfl rfl rfl rfl (by intro hg; first | exact ⟨True.intro, True.intro⟩ | exact sg hg) ?_ | refine AW_seq ?_ | refine AW_region ?_ | refine AW_draw mixed (by kernel_rfl) ?_ | refine AW_block ?_ | refine AW_skip ?_ | refine AW_exit ?_ | refine AW_ret ?_)
    exact ret_exact (r := .tup [.agg (nCells (.mk 0 [] [])), .d (.int .i64 e1)]) rfl (AV.le.tup ⟨AV.le.agg ⟨.refl _, AV.le.dat, AV.le.dat, trivial⟩, .refl _, trivial⟩) rfl rfl rfl rfl ⟨rfl, rfl⟩
  · have h1' : ¬ e1 ≠ 0 := by simpa using h1
    rw [if_neg h1'] at hfin
    repeat (first | refine AWd_step hT rfl rfl rfl (by first | exact True.intro | omega | exact sd) ?_ | refine AWk_step hT rfl rfl (by first | exact True.intro | omega | exact sd) ?_ | refine AWk_step0 hT rfl (by first | exact True.intro | omega | exact sd) ?_ | refine AWd_nil ?_ | refine AWk_nil ?_ | refine AWd_gstep hT rfl rfl rfl rfl rfl (by intro hg; first | exact ⟨True.intro, True.intro⟩ | exact sg hg) ?_ | refine AWk_gstep hT rfl rfl rfl rfl (by intro hg; first | exact ⟨True.intro, True.intro⟩ | exact sg hg) ?_ | refine AW_seq ?_ | refine AW_region ?_ | refine AW_draw mixed (by kernel_rfl) ?_ | refine AW_block ?_ | refine AW_skip ?_ | refine AW_exit ?_ | refine AW_ret ?_)
    refine AWk_op (callS0 rfl rfl hcon rfl rfl rfl) rfl ?_
    repeat (first | refine AWd_step hT rfl rfl rfl (by first | exact True.intro | omega | exact sd) ?_ | refine AWk_step hT rfl rfl (by first | exact True.intro | omega | exact sd) ?_ | refine AWk_step0 hT rfl (by first | exact True.intro | omega | exact sd) ?_ | refine AWd_nil ?_ | refine AWk_nil ?_ | refine AWd_gstep hT rfl rfl rfl rfl rfl (by intro hg; first | exact ⟨True.intro, True.intro⟩ | exact sg hg) ?_ | refine AWk_gstep hT rfl rfl rfl rfl (by intro hg; first | exact ⟨True.intro, True.intro⟩ | exact sg hg) ?_ | refine AW_seq ?_ | refine AW_region ?_ | refine AW_draw mixed (by kernel_rfl) ?_ | refine AW_block ?_ | refine AW_skip ?_ | refine AW_exit ?_ | refine AW_ret ?_)
    refine AWk_op (callS1 rfl rfl hlen [0] (by decide) rfl rfl rfl rfl rfl rfl rfl) rfl ?_
    repeat (first | refine AWd_step hT rfl rfl rfl (by first | exact True.intro | omega | exact sd) ?_ | refine AWk_step hT rfl rfl (by first | exact True.intro | omega | exact sd) ?_ | refine AWk_step0 hT rfl (by first | exact True.intro | omega | exact sd) ?_ | refine AWd_nil ?_ | refine AWk_nil ?_ | refine AWd_gstep hT rfl rfl rfl rfl rfl (by intro hg; first | exact ⟨True.intro, True.intro⟩ | exact sg hg) ?_ | refine AWk_gstep hT rfl rfl rfl rfl (by intro hg; first | exact ⟨True.intro, True.intro⟩ | exact sg hg) ?_ | refine AW_seq ?_ | refine AW_region ?_ | refine AW_draw mixed (by kernel_rfl) ?_ | refine AW_block ?_ | refine AW_skip ?_ | refine AW_exit ?_ | refine AW_ret ?_)
    refine AW_condL rfl (fun h2 => ?_) (fun h2 => ?_)
    · have h2' : e2 ≠ 0 := by simpa using h2
      rw [if_pos h2'] at hfin
      subst hfin
      repeat (first | refine AWd_step hT rfl rfl rfl (by first | exact True.intro | omega | exact sd) ?_ | refine AWk_step hT rfl rfl (by first | exact True.intro | omega | exact sd) ?_ | refine AWk_step0 hT rfl (by first | exact True.intro | omega | exact sd) ?_ | refine AWd_nil ?_ | refine AWk_nil ?_ | refine AWd_gstep hT rfl rfl rfl rfl rfl (by intro hg; first | exact ⟨True.intro, True.intro⟩ | exact sg hg) ?_ | refine AWk_gstep hT rfl rfl rfl rfl (by intro hg; first | exact ⟨True.intro, True.intro⟩ | exact sg hg) ?_ | refine AW_seq ?_ | refine AW_region ?_ | refine AW_draw mixed (by kernel_rfl) ?_ | refine AW_block ?_ | refine AW_skip ?_ | refine AW_exit ?_ | refine AW_ret ?_)
      exact ret_exact (r := .tup [.agg (nCells (.mk 0 [] [])), .d (.int .i64 e2)]) rfl (AV.le.tup ⟨AV.le.agg ⟨.refl _, AV.le.dat, AV.le.dat, trivial⟩, .refl _, trivial⟩) rfl rfl rfl rfl ⟨rfl, rfl⟩
    · have h2' : ¬ e2 ≠ 0 := by simpa using h2
      rw [if_neg h2'] at hfin
      have hwe : IntKind.i64.wrap ((e : Int) - (q : Int)) = (e : Int) - (q : Int) := wrap_id (by omega)
      repeat (first | refine AWd_step hT rfl rfl rfl (by first | exact True.intro | omega | exact sd) ?_ | refine AWk_step hT rfl rfl (by first | exact True.intro | omega | exact sd) ?_ | refine AWk_step0 hT rfl (by first | exact True.intro | omega | exact sd) ?_ | refine AWd_nil ?_ | refine AWk_nil ?_ | refine AWd_gstep hT rfl rfl rfl rfl rfl (by intro hg; first | exact ⟨True.intro, True.intro⟩ | exact sg hg) ?_ | refine AWk_gstep hT rfl rfl rfl rfl (by intro hg; first | exact ⟨True.intro, True.intro⟩ | exact sg hg) ?_ | refine AW_seq ?_ | refine AW_region ?_ | refine AW_draw mixed (by kernel_rfl) ?_ | refine AW_block ?_ | refine AW_skip ?_ | refine AW_exit ?_ | refine AW_ret ?_)
      refine AW_condL rfl (fun h3 => ?_) (fun h3 => ?_)
      · have h3' : d > 8 := by simp at h3; omega
        rw [if_pos h3'] at hfin
        subst hfin
        repeat (first | refine AWd_step hT rfl rfl rfl (by first | exact True.intro | omega | exact sd) ?_ | refine AWk_step hT rfl rfl (by first | exact True.intro | omega | exact sd) ?_ | refine AWk_step0 hT rfl (by first | exact True.intro | omega | exact sd) ?_ | refine AWd_nil ?_ | refine AWk_nil ?_ | refine AWd_gstep hT rfl rfl rfl rfl rfl (by intro hg; first | exact ⟨True.intro, True.intro⟩ | exact sg hg) ?_ | refine AWk_gstep hT rfl rfl rfl rfl (by intro hg; first | exact ⟨True.intro, True.intro⟩ | exact sg hg) ?_ | refine AW_seq ?_ | refine AW_region ?_ | refine AW_draw mixed (by kernel_rfl) ?_ | refine AW_block ?_ | refine AW_skip ?_ | refine AW_exit ?_ | refine AW_ret ?_)
        exact ret_exact (r := .tup [.agg (nCells (.mk 0 [] [])), .d (.int .i64 7)]) rfl (AV.le.tup ⟨AV.le.agg ⟨.refl _, AV.le.dat, AV.le.dat, trivial⟩, .refl _, trivial⟩) rfl rfl rfl rfl ⟨rfl, by rw [hwc]; rfl⟩
      · have h3' : ¬ d > 8 := by simp at h3; omega
        rw [if_neg h3'] at hfin
        repeat (first | refine AWd_step hT rfl rfl rfl (by first | exact True.intro | omega | exact sd) ?_ | refine AWk_step hT rfl rfl (by first | exact True.intro | omega | exact sd) ?_ | refine AWk_step0 hT rfl (by first | exact True.intro | omega | exact sd) ?_ | refine AWd_nil ?_ | refine AWk_nil ?_ | refine AWd_gstep hT rfl rfl rfl rfl rfl (by intro hg; first | exact ⟨True.intro, True.intro⟩ | exact sg hg) ?_ | refine AWk_gstep hT rfl rfl rfl rfl (by intro hg; first | exact ⟨True.intro, True.intro⟩ | exact sg hg) ?_ | refine AW_seq ?_ | refine AW_region ?_ | refine AW_draw mixed (by kernel_rfl) ?_ | refine AW_block ?_ | refine AW_skip ?_ | refine AW_exit ?_ | refine AW_ret ?_)
        refine AW_condL rfl (fun h4 => ?_) (fun h4 => ?_)
        · have h4' : c + 1 > 256 := by rw [hwc] at h4; simp at h4; omega
          rw [if_pos h4'] at hfin
          subst hfin
          repeat (first | refine AWd_step hT rfl rfl rfl (by first | exact True.intro | omega | exact sd) ?_ | refine AWk_step hT rfl rfl (by first | exact True.intro | omega | exact sd) ?_ | refine AWk_step0 hT rfl (by first | exact True.intro | omega | exact sd) ?_ | refine AWd_nil ?_ | refine AWk_nil ?_ | refine AWd_gstep hT rfl rfl rfl rfl rfl (by intro hg; first | exact ⟨True.intro, True.intro⟩ | exact sg hg) ?_ | refine AWk_gstep hT rfl rfl rfl rfl (by intro hg; first | exact ⟨True.intro, True.intro⟩ | exact sg hg) ?_ | refine AW_seq ?_ | refine AW_region ?_ | refine AW_draw mixed (by kernel_rfl) ?_ | refine AW_block ?_ | refine AW_skip ?_ | refine AW_exit ?_ | refine AW_ret ?_)
          exact ret_exact (r := .tup [.agg (nCells (.mk 0 [] [])), .d (.int .i64 2)]) rfl (AV.le.tup ⟨AV.le.agg ⟨.refl _, AV.le.dat, AV.le.dat, trivial⟩, .refl _, trivial⟩) rfl rfl rfl rfl ⟨rfl, by rw [hwc]; rfl⟩
        · have h4' : ¬ c + 1 > 256 := by rw [hwc] at h4; simp at h4; omega
          rw [if_neg h4'] at hfin
          repeat (first | refine AWd_step hT rfl rfl rfl (by first | exact True.intro | omega | exact sd) ?_ | refine AWk_step hT rfl rfl (by first | exact True.intro | omega | exact sd) ?_ | refine AWk_step0 hT rfl (by first | exact True.intro | omega | exact sd) ?_ | refine AWd_nil ?_ | refine AWk_nil ?_ | refine AWd_gstep hT rfl rfl rfl rfl rfl (by intro hg; first | exact ⟨True.intro, True.intro⟩ | exact sg hg) ?_ | refine AWk_gstep hT rfl rfl rfl rfl (by intro hg; first | exact ⟨True.intro, True.intro⟩ | exact sg hg) ?_ | refine AW_seq ?_ | refine AW_region ?_ | refine AW_draw mixed (by kernel_rfl) ?_ | refine AW_block ?_ | refine AW_skip ?_ | refine AW_exit ?_ | refine AW_ret ?_)
          refine AW_condL rfl (fun h5 => ?_) (fun h5 => ?_)
          · have h5' : n > (e : Int) - (q : Int) := by rw [hwe] at h5; simp at h5; omega
            rw [if_pos h5'] at hfin
            subst hfin
            repeat (first | refine AWd_step hT rfl rfl rfl (by first | exact True.intro | omega | exact sd) ?_ | refine AWk_step hT rfl rfl (by first | exact True.intro | omega | exact sd) ?_ | refine AWk_step0 hT rfl (by first | exact True.intro | omega | exact sd) ?_ | refine AWd_nil ?_ | refine AWk_nil ?_ | refine AWd_gstep hT rfl rfl rfl rfl rfl (by intro hg; first | exact ⟨True.intro, True.intro⟩ | exact sg hg) ?_ | refine AWk_gstep hT rfl rfl rfl rfl (by intro hg; first | exact ⟨True.intro, True.intro⟩ | exact sg hg) ?_ | refine AW_seq ?_ | refine AW_region ?_ | refine AW_draw mixed (by kernel_rfl) ?_ | refine AW_block ?_ | refine AW_skip ?_ | refine AW_exit ?_ | refine AW_ret ?_)
            exact ret_exact (r := .tup [.agg (nCells (.mk 0 [] [])), .d (.int .i64 6)]) rfl (AV.le.tup ⟨AV.le.agg ⟨.refl _, AV.le.dat, AV.le.dat, trivial⟩, .refl _, trivial⟩) rfl rfl rfl rfl ⟨rfl, by rw [hwc]; rfl⟩
          · have h5' : ¬ n > (e : Int) - (q : Int) := by rw [hwe] at h5; simp at h5; omega
            rw [if_neg h5'] at hfin
            obtain ⟨k, rfl⟩ : ∃ k', k = k' + 1 := ⟨k - 1, by omega⟩
            have hrow : rdr b st q (c + 1) = [.d (.sl 1 (encB b)), .d (.int .i64 (q : Int)), .d (.bool st), .d (.int .i64 (IntKind.i64.wrap ((c : Int) + 1)))] := by rw [hwc]; rfl
            repeat (first | refine AWd_step hT rfl rfl rfl (by first | exact True.intro | omega | exact sd) ?_ | refine AWk_step hT rfl rfl (by first | exact True.intro | omega | exact sd) ?_ | refine AWk_step0 hT rfl (by first | exact True.intro | omega | exact sd) ?_ | refine AWd_nil ?_ | refine AWk_nil ?_ | refine AWd_gstep hT rfl rfl rfl rfl rfl (by intro hg; first | exact ⟨True.intro, True.intro⟩ | exact sg hg) ?_ | refine AWk_gstep hT rfl rfl rfl rfl (by intro hg; first | exact ⟨True.intro, True.intro⟩ | exact sg hg) ?_ | refine AW_seq ?_ | refine AW_region ?_ | refine AW_draw mixed (by kernel_rfl) ?_ | refine AW_block ?_ | refine AW_skip ?_ | refine AW_exit ?_ | refine AW_ret ?_)
            refine AW_condL rfl (fun h6 => ?_) (fun h6 => ?_)
            · have h6' : n = -1 := by simpa using h6
              rw [if_pos h6'] at hfin
              have hkd := kids_spec b st (objX b st (k + 1) e (d + 1)) e (d + 1) hb he (by omega) (objX_ok b st (k + 1) e (d + 1)) (ih k (by omega) (d + 1) e he (by omega)) q (c + 1) (e + 1) hlok.2.1 (by omega) (by omega)
              rw [← hwd, hrow] at hkd
              generalize kidsX b (objX b st (k + 1) e (d + 1)) e (e + 1) q (c + 1) [] = kr at hkd hfin
              obtain ⟨ks, e3, p3, c3⟩ := kr
              simp only at hkd hfin
              subst hfin
              repeat (first | refine AWd_step hT rfl rfl rfl (by first | exact True.intro | omega | exact sd) ?_ | refine AWk_step hT rfl rfl (by first | exact True.intro | omega | exact sd) ?_ | refine AWk_step0 hT rfl (by first | exact True.intro | omega | exact sd) ?_ | refine AWd_nil ?_ | refine AWk_nil ?_ | refine AWd_gstep hT rfl rfl rfl rfl rfl (by intro hg; first | exact ⟨True.intro, True.intro⟩ | exact sg hg) ?_ | refine AWk_gstep hT rfl rfl rfl rfl (by intro hg; first | exact ⟨True.intro, True.intro⟩ | exact sg hg) ?_ | refine AW_seq ?_ | refine AW_region ?_ | refine AW_draw mixed (by kernel_rfl) ?_ | refine AW_block ?_ | refine AW_skip ?_ | refine AW_exit ?_ | refine AW_ret ?_)
              refine AWk_op (callS1 rfl rfl hkd [0] (by decide) rfl rfl rfl rfl rfl rfl rfl) rfl ?_
              repeat (first | refine AWd_step hT rfl rfl rfl (by first | exact True.intro | omega | exact sd) ?_ | refine AWk_step hT rfl rfl (by first | exact True.intro | omega | exact sd) ?_ | refine AWk_step0 hT rfl (by first | exact True.intro | omega | exact sd) ?_ | refine AWd_nil ?_ | refine AWk_nil ?_ | refine AWd_gstep hT rfl rfl rfl rfl rfl (by intro hg; first | exact ⟨True.intro, True.intro⟩ | exact sg hg) ?_ | refine AWk_gstep hT rfl rfl rfl rfl (by intro hg; first | exact ⟨True.intro, True.intro⟩ | exact sg hg) ?_ | refine AW_seq ?_ | refine AW_region ?_ | refine AW_draw mixed (by kernel_rfl) ?_ | refine AW_block ?_ | refine AW_skip ?_ | refine AW_exit ?_ | refine AW_ret ?_)
              exact ret_exact (r := .tup [.agg (nCells (.mk t [] ks)), .d (.int .i64 e3)]) rfl (AV.le.tup ⟨AV.le.agg ⟨.refl _, AV.le.dat, .refl _, trivial⟩, .refl _, trivial⟩) rfl rfl rfl rfl ⟨rfl, rfl⟩
            · have h6' : ¬ n = -1 := by simpa using h6
              rw [if_neg h6'] at hfin
              obtain ⟨nn, rfl⟩ := Int.eq_ofNat_of_zero_le (show 0 ≤ n by omega)
              rw [Int.toNat_natCast] at hfin
              have hwn : IntKind.i64.wrap ((q : Int) + (nn : Int)) = ((q + nn : Nat) : Int) := by rw [wrap_id (by omega)]; simp
              repeat (first | refine AWd_step hT rfl rfl rfl (by first | exact True.intro | omega | exact sd) ?_ | refine AWk_step hT rfl rfl (by first | exact True.intro | omega | exact sd) ?_ | refine AWk_step0 hT rfl (by first | exact True.intro | omega | exact sd) ?_ | refine AWd_nil ?_ | refine AWk_nil ?_ | refine AWd_gstep hT rfl rfl rfl rfl rfl (by intro hg; first | exact ⟨True.intro, True.intro⟩ | exact sg hg) ?_ | refine AWk_gstep hT rfl rfl rfl rfl (by intro hg; first | exact ⟨True.intro, True.intro⟩ | exact sg hg) ?_ | refine AW_seq ?_ | refine AW_region ?_ | refine AW_draw mixed (by kernel_rfl) ?_ | refine AW_block ?_ | refine AW_skip ?_ | refine AW_exit ?_ | refine AW_ret ?_)
              refine AW_condL rfl (fun h7 => ?_) (fun h7 => ?_)
              · rw [if_pos h7] at hfin
                have hob := objects_spec b st (objX b st (k + 1) (q + nn) (d + 1)) (q + nn) (d + 1) hb (by omega) (by omega) (objX_ok b st (k + 1) (q + nn) (d + 1)) (ih k (by omega) (d + 1) (q + nn) (by omega) (by omega)) q (c + 1) (e + 1) (by omega) (by omega) (by omega)
                rw [← hwd, ← hwn, hrow] at hob
                generalize loopX (objX b st (k + 1) (q + nn) (d + 1)) (q + nn) (e + 1) q (c + 1) [] = kr at hob hfin
                obtain ⟨ks, e3, p3, c3⟩ := kr
                simp only at hob hfin
                subst hfin
                repeat (first | refine AWd_step hT rfl rfl rfl (by first | exact True.intro | omega | exact sd) ?_ | refine AWk_step hT rfl rfl (by first | exact True.intro | omega | exact sd) ?_ | refine AWk_step0 hT rfl (by first | exact True.intro | omega | exact sd) ?_ | refine AWd_nil ?_ | refine AWk_nil ?_ | refine AWd_gstep hT rfl rfl rfl rfl rfl (by intro hg; first | exact ⟨True.intro, True.intro⟩ | exact sg hg) ?_ | refine AWk_gstep hT rfl rfl rfl rfl (by intro hg; first | exact ⟨True.intro, True.intro⟩ | exact sg hg) ?_ | refine AW_seq ?_ | refine AW_region ?_ | refine AW_draw mixed (by kernel_rfl) ?_ | refine AW_block ?_ | refine AW_skip ?_ | refine AW_exit ?_ | refine AW_ret ?_)
                refine AWk_op (callS1 rfl rfl hob [0] (by decide) rfl rfl rfl rfl rfl rfl rfl) rfl ?_
                repeat (first | refine AWd_step hT rfl rfl rfl (by first | exact True.intro | omega | exact sd) ?_ | refine AWk_step hT rfl rfl (by first | exact True.intro | omega | exact sd) ?_ | refine AWk_step0 hT rfl (by first | exact True.intro | omega | exact sd) ?_ | refine AWd_nil ?_ | refine AWk_nil ?_ | refine AWd_gstep hT rfl rfl rfl rfl rfl (by intro hg; first | exact ⟨True.intro, True.intro⟩ | exact sg hg) ?_ | refine AWk_gstep hT rfl rfl rfl rfl (by intro hg; first | exact ⟨True.intro, True.intro⟩ | exact sg hg) ?_ | refine AW_seq ?_ | refine AW_region ?_ | refine AW_draw mixed (by kernel_rfl) ?_ | refine AW_block ?_ | refine AW_skip ?_ | refine AW_exit ?_ | refine AW_ret ?_)
                exact ret_exact (r := .tup [.agg (nCells (.mk t [] ks)), .d (.int .i64 e3)]) rfl (AV.le.tup ⟨AV.le.agg ⟨.refl _, AV.le.dat, .refl _, trivial⟩, .refl _, trivial⟩) rfl rfl rfl rfl ⟨rfl, rfl⟩
              · have h7' : ¬ con = true := by simp [h7]
                rw [if_neg h7'] at hfin
                subst hfin
                repeat (first | refine AW_exit ?_ | refine AW_skip ?_)
                have hbl := encB_length b
                have hwn2 : IntKind.i64.wrap (((q + nn : Nat) : Int)) = ((q + nn : Nat) : Int) := wrap_id (by omega)
                have hcut : cutL (encB b) (q : Int) (IntKind.i64.wrap ((q : Int) + (nn : Int))) = encB ((b.drop q).take nn) := by
                  rw [hwn]; unfold cutL; rw [encB_drop, encB_take, Int.toNat_natCast]; congr 2; omega
                have hcl := CloneB_spec (cutL (encB b) (q : Int) (IntKind.i64.wrap ((q : Int) + (nn : Int)))) (by rw [hcut, encB_length, List.length_take, List.length_drop]; omega)
                refine AW_seq ?_
                refine AW_drawG (fun i => bif Nat.beq i 3 || Nat.beq i 7 || Nat.beq i 11 then [0] else bif Nat.beq i 17 then [2] else []) (fun i => bif Nat.beq i 17 then [2] else []) mixed (by kernel_rfl) ?_
                repeat (first | refine AWg_load hT rfl rfl rfl rfl (by first | exact List.mem_cons_self | exact sm) rfl ?_ | refine AWg_pure hT (fun _ => rfl) rfl rfl (by first | exact True.intro | omega | exact sd) ?_ | refine AWg_store hT rfl rfl rfl (by first | exact List.mem_cons_self | exact sm) rfl ?_ | refine AWd_nil ?_)
                refine AWg_op (os := []) (fun k hk1 hk2 => callS0 rfl rfl hcl rfl rfl rfl) rfl ?_
                repeat (first | refine AWg_load hT rfl rfl rfl rfl (by first | exact List.mem_cons_self | exact sm) rfl ?_ | refine AWg_pure hT (fun _ => rfl) rfl rfl (by first | exact True.intro | omega | exact sd) ?_ | refine AWg_store hT rfl rfl rfl (by first | exact List.mem_cons_self | exact sm) rfl ?_ | refine AWd_nil ?_)
                repeat (first | refine AWd_step hT rfl rfl rfl (by first | exact True.intro | omega | exact sd) ?_ | refine AWk_step hT rfl rfl (by first | exact True.intro | omega | exact sd) ?_ | refine AWk_step0 hT rfl (by first | exact True.intro | omega | exact sd) ?_ | refine AWd_nil ?_ | refine AWk_nil ?_ | refine AWd_gstep hT rfl rfl rfl rfl rfl (by intro hg; first | exact ⟨True.intro, True.intro⟩ | exact sg hg) ?_ | refine AWk_gstep hT rfl rfl rfl rfl (by intro hg; first | exact ⟨True.intro, True.intro⟩ | exact sg hg) ?_ | refine AW_seq ?_ | refine AW_region ?_ | refine AW_draw mixed (by kernel_rfl) ?_ | refine AW_block ?_ | refine AW_skip ?_ | refine AW_exit ?_ | refine AW_ret ?_)
                exact ret_exact (r := .tup [.agg (nCells (.mk t ((b.drop q).take nn) [])), .d (.int .i64 0)]) rfl (AV.le.tup ⟨AV.le.agg ⟨.refl _, AV.le.eq (congrArg (fun z => AV.d (.sl 1 z)) hcut), AV.le.dat, trivial⟩, AV.le.eq (congrArg (fun z => AV.d (.int .i64 z)) (show e2 = 0 by omega)), trivial⟩) rfl rfl rfl rfl ⟨rfl, by rw [hwc, hwn]; rfl⟩

/-- What Parse says: the objects, and an error's number. -/
def parseX (b : List UInt8) (st : Bool) : List Node × Int :=
  if b.length > 4096 then ([], 2) else ((loopX (objX b st 9 b.length 1) b.length (b.length + 1) 0 0 []).1, (loopX (objX b st 9 b.length 1) b.length (b.length + 1) 0 0 []).2.1)

set_option maxHeartbeats 4000000 in
set_option maxRecDepth 100000 in
theorem Parse_spec (b : List UInt8) (st : Bool) (hb : b.length ≤ 1000000) :
    Spec Tryd.prog 58 [.d (.sl 1 (encB b)), .d (.bool st)] [] (fun r h' => r = .tup [.d (.sl 3 (encNs (parseX b st).1)), .d (.int .i64 (parseX b st).2)] ∧ h' = []) := by
  have hbl := encB_length b
  have hob := objects_spec b st (objX b st 9 b.length 1) b.length 1 hb (Nat.le_refl _) (by omega) (objX_ok b st 9 b.length 1) (object_spec b st hb 8 1 b.length (Nat.le_refl _) rfl) 0 0 (b.length + 1) (by omega) (by omega) (by omega)
  refine Spec_of_body hT Tryd.func58 rfl rfl rfl rfl ?_
  intro E hE
  unfold parseX
  repeat (first | refine AWd_step hT rfl rfl rfl (by first | exact True.intro | omega | exact sd) ?_ | refine AWk_step hT rfl rfl (by first | exact True.intro | omega | exact sd) ?_ | refine AWk_step0 hT rfl (by first | exact True.intro | omega | exact sd) ?_ | refine AWd_nil ?_ | refine AWk_nil ?_ | refine AWd_gstep hT rfl rfl rfl rfl rfl (by intro hg; first | exact ⟨True.intro, True.intro⟩ | exact sg hg) ?_ | refine AWk_gstep hT rfl rfl rfl rfl (by intro hg; first | exact ⟨True.intro, True.intro⟩ | exact sg hg) ?_ | refine AW_seq ?_ | refine AW_region ?_ | refine AW_draw mixed (by kernel_rfl) ?_ | refine AW_block ?_ | refine AW_skip ?_ | refine AW_exit ?_ | refine AW_ret ?_)
  refine AW_condL rfl (fun h1 => ?_) (fun h1 => ?_)
  · have h1' : b.length > 4096 := by rw [hbl] at h1; simp at h1; omega
    rw [if_pos h1']
    repeat (first | refine AWd_step hT rfl rfl rfl (by first | exact True.intro | omega | exact sd) ?_ | refine AWk_step hT rfl rfl (by first | exact True.intro | omega | exact sd) ?_ | refine AWk_step0 hT rfl (by first | exact True.intro | omega | exact sd) ?_ | refine AWd_nil ?_ | refine AWk_nil ?_ | refine AWd_gstep hT rfl rfl rfl rfl rfl (by intro hg; first | exact ⟨True.intro, True.intro⟩ | exact sg hg) ?_ | refine AWk_gstep hT rfl rfl rfl rfl (by intro hg; first | exact ⟨True.intro, True.intro⟩ | exact sg hg) ?_ | refine AW_seq ?_ | refine AW_region ?_ | refine AW_draw mixed (by kernel_rfl) ?_ | refine AW_block ?_ | refine AW_skip ?_ | refine AW_exit ?_ | refine AW_ret ?_)
    exact ret_exact (r := .tup [.d (.sl 3 (encNs [])), .d (.int .i64 2)]) rfl (AV.le.tup ⟨AV.le.nils, .refl _, trivial⟩) rfl rfl rfl rfl ⟨rfl, rfl⟩
  · have h1' : ¬ b.length > 4096 := by rw [hbl] at h1; simp at h1; omega
    rw [if_neg h1']
    generalize loopX (objX b st 9 b.length 1) b.length (b.length + 1) 0 0 [] = kr at hob
    obtain ⟨ks, e3, p3, c3⟩ := kr
    simp only at hob ⊢
    rw [← hbl] at hob
    repeat (first | refine AWd_step hT rfl rfl rfl (by first | exact True.intro | omega | exact sd) ?_ | refine AWk_step hT rfl rfl (by first | exact True.intro | omega | exact sd) ?_ | refine AWk_step0 hT rfl (by first | exact True.intro | omega | exact sd) ?_ | refine AWd_nil ?_ | refine AWk_nil ?_ | refine AWd_gstep hT rfl rfl rfl rfl rfl (by intro hg; first | exact ⟨True.intro, True.intro⟩ | exact sg hg) ?_ | refine AWk_gstep hT rfl rfl rfl rfl (by intro hg; first | exact ⟨True.intro, True.intro⟩ | exact sg hg) ?_ | refine AW_seq ?_ | refine AW_region ?_ | refine AW_draw mixed (by kernel_rfl) ?_ | refine AW_block ?_ | refine AW_skip ?_ | refine AW_exit ?_ | refine AW_ret ?_)
    refine AWk_op (callS1 rfl rfl hob [0] (by decide) rfl rfl rfl rfl rfl rfl rfl) rfl ?_
    repeat (first | refine AWd_step hT rfl rfl rfl (by first | exact True.intro | omega | exact sd) ?_ | refine AWk_step hT rfl rfl (by first | exact True.intro | omega | exact sd) ?_ | refine AWk_step0 hT rfl (by first | exact True.intro | omega | exact sd) ?_ | refine AWd_nil ?_ | refine AWk_nil ?_ | refine AWd_gstep hT rfl rfl rfl rfl rfl (by intro hg; first | exact ⟨True.intro, True.intro⟩ | exact sg hg) ?_ | refine AWk_gstep hT rfl rfl rfl rfl (by intro hg; first | exact ⟨True.intro, True.intro⟩ | exact sg hg) ?_ | refine AW_seq ?_ | refine AW_region ?_ | refine AW_draw mixed (by kernel_rfl) ?_ | refine AW_block ?_ | refine AW_skip ?_ | refine AW_exit ?_ | refine AW_ret ?_)
    exact ret_exact rfl (.refl _) rfl rfl rfl rfl ⟨rfl, rfl⟩
end Tdoc
