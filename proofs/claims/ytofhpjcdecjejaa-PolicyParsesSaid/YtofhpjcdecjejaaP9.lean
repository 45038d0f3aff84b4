/- Package policy: rules, and the parser as a whole. -/
import Derived.Test.YtofhpjcdecjejaaP8
set_option linter.unusedVariables false
set_option linter.unusedSimpArgs false
namespace Tdoc
open Go Go.Proofs

theorem flatC_small {kind : Int} {c : Cond} (h : smallC c) : smallCs (flatC kind c) := by
  cases c
  simp only [flatC]
  split
  · exact h.2
  · exact ⟨h, trivial⟩

def PartSmall (text : List UInt8) (n : Nat) (part : PS → Cond × PS) : Prop := ∀ s, Inv text s → text.length - s.na < n → smallC (part s).1

theorem loopP_small {text : List UInt8} {n : Nat} {part : PS → Cond × PS} (hp : PartOk text n part) (hs : PartSmall text n part) (kind : Int) {w : List UInt8} (hw : w ≠ []) : ∀ (m : Nat) (l : List Cond) (s : PS), Inv text s → text.length - s.na < n → smallCs l → smallCs (loopP text kind w part m l s).1
  | 0, l, s, h, hn, hl => hl
  | m + 1, l, s, h, hn, hl => by
    unfold loopP
    cases hi : (isP text s w).1 with
    | false => rw [if_neg (by simp)]; exact hl
    | true =>
      rw [if_pos rfl]
      obtain ⟨h1, h2, h3⟩ := isP_true h hi
      have hwl : 0 < w.length := List.length_pos_iff.2 hw
      obtain ⟨k1, k2, k3⟩ := hp.inv _ h1 (by omega)
      exact loopP_small hp hs kind hw m _ _ k1 (by omega) (smallCs_append hl (flatC_small (hs _ h1 (by omega))))

theorem seriesP_small {text : List UInt8} {n : Nat} {part : PS → Cond × PS} (hl : text.length ≤ 1000000) (hp : PartOk text n part) (hs : PartSmall text n part) (kind : Int) {w : List UInt8} (hw : w ≠ []) : PartSmall text n (seriesP text kind w part) := by
  intro s h hn
  obtain ⟨k1, k2, k3⟩ := hp.inv s h hn
  have h0 := hs s h hn
  have hwide := ((seriesP_ok hp kind hw).inv s h hn)
  unfold seriesP at hwide ⊢
  split
  · exact h0
  · rename_i hc
    rw [if_neg hc] at hwide
    obtain ⟨q1, q2, q3⟩ := hwide
    simp only [wideC] at q3
    have := q1.a; have := q1.le
    exact ⟨by simp only at *; omega, loopP_small hp hs kind hw _ _ _ k1 (by omega) (flatC_small h0)⟩

theorem atomP_small {text : List UInt8} (hl : text.length ≤ 1000000) : ∀ n, PartSmall text n (atomP text n)
  | 0 => fun s _ hn => by omega
  | n + 1 => by
    have ih := atomP_small hl n
    intro s h hn
    unfold atomP
    cases h1 : (isP text s notW).1 with
    | true =>
      rw [if_pos rfl]
      obtain ⟨k1, k2, k3⟩ := isP_true h h1
      have : notW.length = 3 := rfl
      exact ⟨by simp, ih _ k1 (by omega), trivial⟩
    | false =>
      rw [if_neg (by simp), isP_false h1]
      cases h2 : (isP text s lpW).1 with
      | true =>
        rw [if_pos rfl]
        obtain ⟨k1, k2, k3⟩ := isP_true h h2
        have : lpW.length = 1 := rfl
        exact seriesP_small hl (conjP_ok text n) (seriesP_small hl (atomP_ok text n) ih 3 (w := andW) (by decide)) 4 (w := orW) (by decide) _ k1 (by omega)
      | false =>
        rw [if_neg (by simp)]
        unfold isAtomP
        split <;> exact ⟨by simp, trivial⟩

theorem condP_small {text : List UInt8} (hl : text.length ≤ 1000000) (n : Nat) : PartSmall text n (condP text n) :=
  seriesP_small hl (conjP_ok text n) (seriesP_small hl (atomP_ok text n) (atomP_small hl n) 3 (w := andW) (by decide)) 4 (w := orW) (by decide)

def ruleP (text : List UInt8) (n : Nat) (s : PS) : Rule × PS :=
  if (isP text (oneP text s vds).2 ifW).1 then (.mk (oneP text s vds).1 false (condP text n (isP text (oneP text s vds).2 ifW).2).1, needP text (condP text n (isP text (oneP text s vds).2 ifW).2).2 scW)
  else (.mk (oneP text s vds).1 true (.mk 0 0 0 []), needP text (isP text (oneP text s vds).2 ifW).2 scW)

theorem isP_wr {text : List UInt8} {s : PS} {w : List UInt8} (h : s.wr = true) : isP text s w = (false, s) := by unfold isP; rw [if_pos (.inl h)]
theorem needP_wr {text : List UInt8} {s : PS} {w : List UInt8} (h : s.wr = true) : (needP text s w).wr = true := by unfold needP; rw [isP_wr h]; rfl

theorem ruleP_ok {text : List UInt8} (hl : text.length ≤ 1000000) {s : PS} (h : Inv text s) (hnt : s.nt ≠ []) :
    Inv text (ruleP text (text.length + 1) s).2 ∧ s.na ≤ (ruleP text (text.length + 1) s).2.na ∧ ((ruleP text (text.length + 1) s).2.wr = true ∨ s.na < (ruleP text (text.length + 1) s).2.na) ∧ smallC (condR (ruleP text (text.length + 1) s).1) := by
  obtain ⟨h1, h2⟩ := oneP_inv (l := vds) h
  have hone : (oneP text s vds).2.wr = true ∨ s.na < (oneP text s vds).2.na := by
    unfold oneP
    split
    · exact .inl rfl
    · obtain ⟨_, q, _⟩ := h.next
      have := List.length_pos_iff.2 hnt
      exact .inr (by simp only; omega)
  obtain ⟨h3, h4⟩ := isP_inv (w := ifW) h1
  unfold ruleP
  cases hi : (isP text (oneP text s vds).2 ifW).1 with
  | true =>
    rw [if_pos rfl]
    have hnw : (oneP text s vds).2.wr = false := by
      cases hb : (oneP text s vds).2.wr with
      | false => rfl
      | true => rw [isP_wr hb] at hi; cases hi
    rw [hnw] at hone
    have hone := hone.resolve_left (by simp)
    obtain ⟨q1, q2, q3⟩ := (condP_ok text (text.length + 1)).inv _ h3 (by omega)
    obtain ⟨r1, r2⟩ := needP_inv (w := scW) q1
    exact ⟨r1, by simp only; omega, .inr (by simp only; omega), condP_small hl _ _ h3 (by omega)⟩
  | false =>
    rw [if_neg (by simp)]
    obtain ⟨r1, r2⟩ := needP_inv (w := scW) h3
    refine ⟨r1, by simp only; omega, ?_, by simp, trivial⟩
    rcases hone with hw | hw
    · left; rw [isP_wr hw]; exact needP_wr hw
    · right; simp only; omega

theorem lowL_encR (k : Nat) (r : Rule) : low k (.agg ((encR r).map .d)) = true := lowL_d (encR r)

set_option maxRecDepth 100000 in
theorem rule_spec {text : List UInt8} (hl : text.length ≤ 1000000) (s : PS) (h : Inv text s) :
    Spec Try.prog 23 [.ptr 0 0] [.row (psr text s)] (fun r h' => r = .agg ((encR (ruleP text (text.length + 1) s).1).map .d) ∧ h' = [.row (psr text (ruleP text (text.length + 1) s).2)]) := by
  have hone := one_spec text s vds h.le hl (by decide)
  obtain ⟨q1, q2⟩ := oneP_inv (l := vds) h
  unfold ruleP
  generalize oneP text s vds = r1 at hone q1 q2 ⊢
  obtain ⟨n1, s1⟩ := r1
  simp only at hone q1 q2 ⊢
  have his := is_spec text s1 ifW q1.le hl
  obtain ⟨j1, j2⟩ := isP_inv (w := ifW) q1
  generalize isP text s1 ifW = r2 at his j1 j2 ⊢
  obtain ⟨b2, s2⟩ := r2
  simp only at his j1 j2 ⊢
  have hcond := cond_spec hl (conj_spec hl (atom_spec hl (text.length + 1))) s2 j1 (by omega)
  obtain ⟨k1, k2, k3⟩ := (condP_ok text (text.length + 1)).inv s2 j1 (by omega)
  generalize condP text (text.length + 1) s2 = r3 at hcond k1 ⊢
  obtain ⟨⟨k, c, v, kids⟩, s3⟩ := r3
  simp only at hcond k1 ⊢
  have hn1 := need_spec text s3 scW k1.le hl
  have hn2 := need_spec text s2 scW j1.le hl
  generalize needP text s3 scW = s4 at hn1 ⊢
  generalize needP text s2 scW = s5 at hn2 ⊢
  refine Spec_of_body hT Try.func23 rfl rfl rfl rfl ?_
  intro E hE
  repeat (first | refine AWd_step hT rfl rfl rfl (by first | exact True.intro | exact (fun hh => hh) | omega | assumption | (intro hh; simp [gval, hh]; done) | (simp; omega)) ?_ | refine AWk_step hT rfl rfl (by first | exact True.intro | exact (fun hh => hh) | omega | assumption | (intro hh; simp [gval, hh]; done) | (simp; omega)) ?_ | refine AWk_step0 hT rfl (by first | exact True.intro | exact (fun hh => hh) | omega | assumption | (intro hh; simp [gval, hh]; done) | (simp; omega)) ?_ | refine AWd_nil ?_ | refine AWk_nil ?_ | refine AWd_gstep hT rfl rfl rfl rfl rfl (fun hg => ⟨by (first | exact True.intro | exact ⟨hg, True.intro⟩ | exact ⟨hg, hg, True.intro⟩ | (refine ⟨?_, True.intro⟩; simp at hg; simp [hg]; done) | (refine ⟨?_, ?_, True.intro⟩ <;> (simp at hg; simp [hg]; done))), by (first | exact True.intro | (intro hh; simp [gval, hh, hg]; done) | (intro hh; simp only [gval, hh, hg, Bool.not_false, Bool.not_true, Bool.and_true, Bool.true_and]; done) | (intro hh; simp only [gval] at hg; simp only [gval, hh, hg, Bool.not_false, Bool.and_true, Bool.true_and]; done) | (simp [gval] at hg; first | omega | (simp; done) | (simp; omega)))⟩) ?_ | refine AWk_gstep hT rfl rfl rfl rfl (fun hg => ⟨by (first | exact True.intro | exact ⟨hg, True.intro⟩ | exact ⟨hg, hg, True.intro⟩ | (refine ⟨?_, True.intro⟩; simp at hg; simp [hg]; done) | (refine ⟨?_, ?_, True.intro⟩ <;> (simp at hg; simp [hg]; done))), by (first | exact True.intro | (intro hh; simp [gval, hh, hg]; done) | (intro hh; simp only [gval, hh, hg, Bool.not_false, Bool.not_true, Bool.and_true, Bool.true_and]; done) | (intro hh; simp only [gval] at hg; simp only [gval, hh, hg, Bool.not_false, Bool.and_true, Bool.true_and]; done) | (simp [gval] at hg; first | omega | (simp; done) | (simp; omega)))⟩) ?_ | refine AW_seq ?_ | refine AW_region ?_ | refine AW_draw mixed (by kernel_rfl) ?_ | refine AW_block ?_ | refine AW_skip ?_ | refine AW_exit ?_ | refine AW_ret ?_)
  refine AWk_op (callS0 rfl rfl Verdicts_spec rfl rfl rfl) rfl ?_
  refine AWk_op (callS1 rfl rfl hone [0] (by decide) rfl rfl rfl (lowH_psr 0 _ _) (lowH_psr 0 _ _) rfl rfl) rfl ?_
  repeat (first | refine AWd_step hT rfl rfl rfl (by first | exact True.intro | exact (fun hh => hh) | omega | assumption | (intro hh; simp [gval, hh]; done) | (simp; omega)) ?_ | refine AWk_step hT rfl rfl (by first | exact True.intro | exact (fun hh => hh) | omega | assumption | (intro hh; simp [gval, hh]; done) | (simp; omega)) ?_ | refine AWk_step0 hT rfl (by first | exact True.intro | exact (fun hh => hh) | omega | assumption | (intro hh; simp [gval, hh]; done) | (simp; omega)) ?_ | refine AWd_nil ?_ | refine AWk_nil ?_ | refine AWd_gstep hT rfl rfl rfl rfl rfl (fun hg => ⟨by (first | exact True.intro | exact ⟨hg, True.intro⟩ | exact ⟨hg, hg, True.intro⟩ | (refine ⟨?_, True.intro⟩; simp at hg; simp [hg]; done) | (refine ⟨?_, ?_, True.intro⟩ <;> (simp at hg; simp [hg]; done))), by (first | exact True.intro | (intro hh; simp [gval, hh, hg]; done) | (intro hh; simp only [gval, hh, hg, Bool.not_false, Bool.not_true, Bool.and_true, Bool.true_and]; done) | (intro hh; simp only [gval] at hg; simp only [gval, hh, hg, Bool.not_false, Bool.and_true, Bool.true_and]; done) | (simp [gval] at hg; first | omega | (simp; done) | (simp; omega)))⟩) ?_ | refine AWk_gstep hT rfl rfl rfl rfl (fun hg => ⟨by (first | exact True.intro | exact ⟨hg, True.intro⟩ | exact ⟨hg, hg, True.intro⟩ | (refine ⟨?_, True.intro⟩; simp at hg; simp [hg]; done) | (refine ⟨?_, ?_, True.intro⟩ <;> (simp at hg; simp [hg]; done))), by (first | exact True.intro | (intro hh; simp [gval, hh, hg]; done) | (intro hh; simp only [gval, hh, hg, Bool.not_false, Bool.not_true, Bool.and_true, Bool.true_and]; done) | (intro hh; simp only [gval] at hg; simp only [gval, hh, hg, Bool.not_false, Bool.and_true, Bool.true_and]; done) | (simp [gval] at hg; first | omega | (simp; done) | (simp; omega)))⟩) ?_ | refine AW_seq ?_ | refine AW_region ?_ | refine AW_draw mixed (by kernel_rfl) ?_ | refine AW_block ?_ | refine AW_skip ?_ | refine AW_exit ?_ | refine AW_ret ?_)
  refine AWk_op (callS1 rfl rfl his [0] (by decide) rfl rfl rfl (lowH_psr 0 _ _) (lowH_psr 0 _ _) rfl rfl) rfl ?_
  repeat (first | refine AWd_step hT rfl rfl rfl (by first | exact True.intro | exact (fun hh => hh) | omega | assumption | (intro hh; simp [gval, hh]; done) | (simp; omega)) ?_ | refine AWk_step hT rfl rfl (by first | exact True.intro | exact (fun hh => hh) | omega | assumption | (intro hh; simp [gval, hh]; done) | (simp; omega)) ?_ | refine AWk_step0 hT rfl (by first | exact True.intro | exact (fun hh => hh) | omega | assumption | (intro hh; simp [gval, hh]; done) | (simp; omega)) ?_ | refine AWd_nil ?_ | refine AWk_nil ?_ | refine AWd_gstep hT rfl rfl rfl rfl rfl (fun hg => ⟨by (first | exact True.intro | exact ⟨hg, True.intro⟩ | exact ⟨hg, hg, True.intro⟩ | (refine ⟨?_, True.intro⟩; simp at hg; simp [hg]; done) | (refine ⟨?_, ?_, True.intro⟩ <;> (simp at hg; simp [hg]; done))), by (first | exact True.intro | (intro hh; simp [gval, hh, hg]; done) | (intro hh; simp only [gval, hh, hg, Bool.not_false, Bool.not_true, Bool.and_true, Bool.true_and]; done) | (intro hh; simp only [gval] at hg; simp only [gval, hh, hg, Bool.not_false, Bool.and_true, Bool.true_and]; done) | (simp [gval] at hg; first | omega | (simp; done) | (simp; omega)))⟩) ?_ | refine AWk_gstep hT rfl rfl rfl rfl (fun hg => ⟨by (first | exact True.intro | exact ⟨hg, True.intro⟩ | exact ⟨hg, hg, True.intro⟩ | (refine ⟨?_, True.intro⟩; simp at hg; simp [hg]; done) | (refine ⟨?_, ?_, True.intro⟩ <;> (simp at hg; simp [hg]; done))), by (first | exact True.intro | (intro hh; simp [gval, hh, hg]; done) | (intro hh; simp only [gval, hh, hg, Bool.not_false, Bool.not_true, Bool.and_true, Bool.true_and]; done) | (intro hh; simp only [gval] at hg; simp only [gval, hh, hg, Bool.not_false, Bool.and_true, Bool.true_and]; done) | (simp [gval] at hg; first | omega | (simp; done) | (simp; omega)))⟩) ?_ | refine AW_seq ?_ | refine AW_region ?_ | refine AW_draw mixed (by kernel_rfl) ?_ | refine AW_block ?_ | refine AW_skip ?_ | refine AW_exit ?_ | refine AW_ret ?_)
  refine AW_condL rfl (fun hb => ?_) (fun hb => ?_)
  · subst hb
    rw [if_pos rfl]
    repeat (first | refine AWd_step hT rfl rfl rfl (by first | exact True.intro | exact (fun hh => hh) | omega | assumption | (intro hh; simp [gval, hh]; done) | (simp; omega)) ?_ | refine AWk_step hT rfl rfl (by first | exact True.intro | exact (fun hh => hh) | omega | assumption | (intro hh; simp [gval, hh]; done) | (simp; omega)) ?_ | refine AWk_step0 hT rfl (by first | exact True.intro | exact (fun hh => hh) | omega | assumption | (intro hh; simp [gval, hh]; done) | (simp; omega)) ?_ | refine AWd_nil ?_ | refine AWk_nil ?_ | refine AWd_gstep hT rfl rfl rfl rfl rfl (fun hg => ⟨by (first | exact True.intro | exact ⟨hg, True.intro⟩ | exact ⟨hg, hg, True.intro⟩ | (refine ⟨?_, True.intro⟩; simp at hg; simp [hg]; done) | (refine ⟨?_, ?_, True.intro⟩ <;> (simp at hg; simp [hg]; done))), by (first | exact True.intro | (intro hh; simp [gval, hh, hg]; done) | (intro hh; simp only [gval, hh, hg, Bool.not_false, Bool.not_true, Bool.and_true, Bool.true_and]; done) | (intro hh; simp only [gval] at hg; simp only [gval, hh, hg, Bool.not_false, Bool.and_true, Bool.true_and]; done) | (simp [gval] at hg; first | omega | (simp; done) | (simp; omega)))⟩) ?_ | refine AWk_gstep hT rfl rfl rfl rfl (fun hg => ⟨by (first | exact True.intro | exact ⟨hg, True.intro⟩ | exact ⟨hg, hg, True.intro⟩ | (refine ⟨?_, True.intro⟩; simp at hg; simp [hg]; done) | (refine ⟨?_, ?_, True.intro⟩ <;> (simp at hg; simp [hg]; done))), by (first | exact True.intro | (intro hh; simp [gval, hh, hg]; done) | (intro hh; simp only [gval, hh, hg, Bool.not_false, Bool.not_true, Bool.and_true, Bool.true_and]; done) | (intro hh; simp only [gval] at hg; simp only [gval, hh, hg, Bool.not_false, Bool.and_true, Bool.true_and]; done) | (simp [gval] at hg; first | omega | (simp; done) | (simp; omega)))⟩) ?_ | refine AW_seq ?_ | refine AW_region ?_ | refine AW_draw mixed (by kernel_rfl) ?_ | refine AW_block ?_ | refine AW_skip ?_ | refine AW_exit ?_ | refine AW_ret ?_)
    refine AWk_op (callS1 rfl rfl hcond [0] (by decide) rfl rfl rfl (lowH_psr 0 _ _) (lowH_psr 0 _ _) (ren_cAV _ _) rfl) rfl ?_
    repeat (first | refine AWd_step hT rfl rfl rfl (by first | exact True.intro | exact (fun hh => hh) | omega | assumption | (intro hh; simp [gval, hh]; done) | (simp; omega)) ?_ | refine AWk_step hT rfl rfl (by first | exact True.intro | exact (fun hh => hh) | omega | assumption | (intro hh; simp [gval, hh]; done) | (simp; omega)) ?_ | refine AWk_step0 hT rfl (by first | exact True.intro | exact (fun hh => hh) | omega | assumption | (intro hh; simp [gval, hh]; done) | (simp; omega)) ?_ | refine AWd_nil ?_ | refine AWk_nil ?_ | refine AWd_gstep hT rfl rfl rfl rfl rfl (fun hg => ⟨by (first | exact True.intro | exact ⟨hg, True.intro⟩ | exact ⟨hg, hg, True.intro⟩ | (refine ⟨?_, True.intro⟩; simp at hg; simp [hg]; done) | (refine ⟨?_, ?_, True.intro⟩ <;> (simp at hg; simp [hg]; done))), by (first | exact True.intro | (intro hh; simp [gval, hh, hg]; done) | (intro hh; simp only [gval, hh, hg, Bool.not_false, Bool.not_true, Bool.and_true, Bool.true_and]; done) | (intro hh; simp only [gval] at hg; simp only [gval, hh, hg, Bool.not_false, Bool.and_true, Bool.true_and]; done) | (simp [gval] at hg; first | omega | (simp; done) | (simp; omega)))⟩) ?_ | refine AWk_gstep hT rfl rfl rfl rfl (fun hg => ⟨by (first | exact True.intro | exact ⟨hg, True.intro⟩ | exact ⟨hg, hg, True.intro⟩ | (refine ⟨?_, True.intro⟩; simp at hg; simp [hg]; done) | (refine ⟨?_, ?_, True.intro⟩ <;> (simp at hg; simp [hg]; done))), by (first | exact True.intro | (intro hh; simp [gval, hh, hg]; done) | (intro hh; simp only [gval, hh, hg, Bool.not_false, Bool.not_true, Bool.and_true, Bool.true_and]; done) | (intro hh; simp only [gval] at hg; simp only [gval, hh, hg, Bool.not_false, Bool.and_true, Bool.true_and]; done) | (simp [gval] at hg; first | omega | (simp; done) | (simp; omega)))⟩) ?_ | refine AW_seq ?_ | refine AW_region ?_ | refine AW_draw mixed (by kernel_rfl) ?_ | refine AW_block ?_ | refine AW_skip ?_ | refine AW_exit ?_ | refine AW_ret ?_)
    refine AWk_op (callS1 rfl rfl hn1 [0] (by decide) rfl rfl rfl (lowH_psr 0 _ _) (lowH_psr 0 _ _) rfl rfl) rfl ?_
    repeat (first | refine AWd_step hT rfl rfl rfl (by first | exact True.intro | exact (fun hh => hh) | omega | assumption | (intro hh; simp [gval, hh]; done) | (simp; omega)) ?_ | refine AWk_step hT rfl rfl (by first | exact True.intro | exact (fun hh => hh) | omega | assumption | (intro hh; simp [gval, hh]; done) | (simp; omega)) ?_ | refine AWk_step0 hT rfl (by first | exact True.intro | exact (fun hh => hh) | omega | assumption | (intro hh; simp [gval, hh]; done) | (simp; omega)) ?_ | refine AWd_nil ?_ | refine AWk_nil ?_ | refine AWd_gstep hT rfl rfl rfl rfl rfl (fun hg => ⟨by (first | exact True.intro | exact ⟨hg, True.intro⟩ | exact ⟨hg, hg, True.intro⟩ | (refine ⟨?_, True.intro⟩; simp at hg; simp [hg]; done) | (refine ⟨?_, ?_, True.intro⟩ <;> (simp at hg; simp [hg]; done))), by (first | exact True.intro | (intro hh; simp [gval, hh, hg]; done) | (intro hh; simp only [gval, hh, hg, Bool.not_false, Bool.not_true, Bool.and_true, Bool.true_and]; done) | (intro hh; simp only [gval] at hg; simp only [gval, hh, hg, Bool.not_false, Bool.and_true, Bool.true_and]; done) | (simp [gval] at hg; first | omega | (simp; done) | (simp; omega)))⟩) ?_ | refine AWk_gstep hT rfl rfl rfl rfl (fun hg => ⟨by (first | exact True.intro | exact ⟨hg, True.intro⟩ | exact ⟨hg, hg, True.intro⟩ | (refine ⟨?_, True.intro⟩; simp at hg; simp [hg]; done) | (refine ⟨?_, ?_, True.intro⟩ <;> (simp at hg; simp [hg]; done))), by (first | exact True.intro | (intro hh; simp [gval, hh, hg]; done) | (intro hh; simp only [gval, hh, hg, Bool.not_false, Bool.not_true, Bool.and_true, Bool.true_and]; done) | (intro hh; simp only [gval] at hg; simp only [gval, hh, hg, Bool.not_false, Bool.and_true, Bool.true_and]; done) | (simp [gval] at hg; first | omega | (simp; done) | (simp; omega)))⟩) ?_ | refine AW_seq ?_ | refine AW_region ?_ | refine AW_draw mixed (by kernel_rfl) ?_ | refine AW_block ?_ | refine AW_skip ?_ | refine AW_exit ?_ | refine AW_ret ?_)
    exact ret_exact (r := .agg ((encR (.mk n1 false (.mk k c v kids))).map .d)) rfl (AV.le.agg ⟨.refl _, .refl _, .refl _, .refl _, .refl _, .refl _, trivial⟩) rfl rfl rfl (lowH_psr _ _ _) ⟨rfl, rfl⟩
  · subst hb
    rw [if_neg (by simp)]
    repeat (first | refine AWd_step hT rfl rfl rfl (by first | exact True.intro | exact (fun hh => hh) | omega | assumption | (intro hh; simp [gval, hh]; done) | (simp; omega)) ?_ | refine AWk_step hT rfl rfl (by first | exact True.intro | exact (fun hh => hh) | omega | assumption | (intro hh; simp [gval, hh]; done) | (simp; omega)) ?_ | refine AWk_step0 hT rfl (by first | exact True.intro | exact (fun hh => hh) | omega | assumption | (intro hh; simp [gval, hh]; done) | (simp; omega)) ?_ | refine AWd_nil ?_ | refine AWk_nil ?_ | refine AWd_gstep hT rfl rfl rfl rfl rfl (fun hg => ⟨by (first | exact True.intro | exact ⟨hg, True.intro⟩ | exact ⟨hg, hg, True.intro⟩ | (refine ⟨?_, True.intro⟩; simp at hg; simp [hg]; done) | (refine ⟨?_, ?_, True.intro⟩ <;> (simp at hg; simp [hg]; done))), by (first | exact True.intro | (intro hh; simp [gval, hh, hg]; done) | (intro hh; simp only [gval, hh, hg, Bool.not_false, Bool.not_true, Bool.and_true, Bool.true_and]; done) | (intro hh; simp only [gval] at hg; simp only [gval, hh, hg, Bool.not_false, Bool.and_true, Bool.true_and]; done) | (simp [gval] at hg; first | omega | (simp; done) | (simp; omega)))⟩) ?_ | refine AWk_gstep hT rfl rfl rfl rfl (fun hg => ⟨by (first | exact True.intro | exact ⟨hg, True.intro⟩ | exact ⟨hg, hg, True.intro⟩ | (refine ⟨?_, True.intro⟩; simp at hg; simp [hg]; done) | (refine ⟨?_, ?_, True.intro⟩ <;> (simp at hg; simp [hg]; done))), by (first | exact True.intro | (intro hh; simp [gval, hh, hg]; done) | (intro hh; simp only [gval, hh, hg, Bool.not_false, Bool.not_true, Bool.and_true, Bool.true_and]; done) | (intro hh; simp only [gval] at hg; simp only [gval, hh, hg, Bool.not_false, Bool.and_true, Bool.true_and]; done) | (simp [gval] at hg; first | omega | (simp; done) | (simp; omega)))⟩) ?_ | refine AW_seq ?_ | refine AW_region ?_ | refine AW_draw mixed (by kernel_rfl) ?_ | refine AW_block ?_ | refine AW_skip ?_ | refine AW_exit ?_ | refine AW_ret ?_)
    refine AWk_op (callS1 rfl rfl hn2 [0] (by decide) rfl rfl rfl (lowH_psr 0 _ _) (lowH_psr 0 _ _) rfl rfl) rfl ?_
    repeat (first | refine AWd_step hT rfl rfl rfl (by first | exact True.intro | exact (fun hh => hh) | omega | assumption | (intro hh; simp [gval, hh]; done) | (simp; omega)) ?_ | refine AWk_step hT rfl rfl (by first | exact True.intro | exact (fun hh => hh) | omega | assumption | (intro hh; simp [gval, hh]; done) | (simp; omega)) ?_ | refine AWk_step0 hT rfl (by first | exact True.intro | exact (fun hh => hh) | omega | assumption | (intro hh; simp [gval, hh]; done) | (simp; omega)) ?_ | refine AWd_nil ?_ | refine AWk_nil ?_ | refine AWd_gstep hT rfl rfl rfl rfl rfl (fun hg => ⟨by (first | exact True.intro | exact ⟨hg, True.intro⟩ | exact ⟨hg, hg, True.intro⟩ | (refine ⟨?_, True.intro⟩; simp at hg; simp [hg]; done) | (refine ⟨?_, ?_, True.intro⟩ <;> (simp at hg; simp [hg]; done))), by (first | exact True.intro | (intro hh; simp [gval, hh, hg]; done) | (intro hh; simp only [gval, hh, hg, Bool.not_false, Bool.not_true, Bool.and_true, Bool.true_and]; done) | (intro hh; simp only [gval] at hg; simp only [gval, hh, hg, Bool.not_false, Bool.and_true, Bool.true_and]; done) | (simp [gval] at hg; first | omega | (simp; done) | (simp; omega)))⟩) ?_ | refine AWk_gstep hT rfl rfl rfl rfl (fun hg => ⟨by (first | exact True.intro | exact ⟨hg, True.intro⟩ | exact ⟨hg, hg, True.intro⟩ | (refine ⟨?_, True.intro⟩; simp at hg; simp [hg]; done) | (refine ⟨?_, ?_, True.intro⟩ <;> (simp at hg; simp [hg]; done))), by (first | exact True.intro | (intro hh; simp [gval, hh, hg]; done) | (intro hh; simp only [gval, hh, hg, Bool.not_false, Bool.not_true, Bool.and_true, Bool.true_and]; done) | (intro hh; simp only [gval] at hg; simp only [gval, hh, hg, Bool.not_false, Bool.and_true, Bool.true_and]; done) | (simp [gval] at hg; first | omega | (simp; done) | (simp; omega)))⟩) ?_ | refine AW_seq ?_ | refine AW_region ?_ | refine AW_draw mixed (by kernel_rfl) ?_ | refine AW_block ?_ | refine AW_skip ?_ | refine AW_exit ?_ | refine AW_ret ?_)
    exact ret_exact (r := .agg ((encR (.mk n1 true (.mk 0 0 0 []))).map .d)) rfl (AV.le.agg ⟨.refl _, .refl _, .refl _, .refl _, .refl _, AV.le.dat, trivial⟩) rfl rfl rfl (lowH_psr _ _ _) ⟨rfl, rfl⟩
end Tdoc
