/- The parser of package policy: the next word. -/
import Derived.Test.YtofhpjcdecjejaaP1
set_option linter.unusedVariables false
set_option linter.unusedSimpArgs false
namespace Tdoc
open Go Go.Proofs

def isLow (c : UInt8) : Bool := decide (97 ≤ c.toNat) && decide (c.toNat ≤ 122)
/-- How many letters a text begins with. -/
def lets : List UInt8 → Nat
  | [] => 0
  | c :: r => if isLow c then lets r + 1 else 0

theorem lets_le : ∀ (l : List UInt8), lets l ≤ l.length
  | [] => by simp [lets]
  | c :: r => by have := lets_le r; simp only [lets, List.length_cons]; split <;> omega

/-- The word that begins here: its length. -/
def wlen (l : List UInt8) : Nat := if lets l = 0 ∧ l ≠ [] then 1 else lets l

theorem wlen_le (l : List UInt8) : wlen l ≤ l.length := by
  unfold wlen
  split
  · rename_i h; have := List.length_pos_iff.2 h.2; omega
  · exact lets_le l

def nextP (text : List UInt8) (s : PS) : PS :=
  ⟨s.a + skipS false (text.drop s.a) + wlen (text.drop (s.a + skipS false (text.drop s.a))), (text.drop (s.a + skipS false (text.drop s.a))).take (wlen (text.drop (s.a + skipS false (text.drop s.a)))), s.a + skipS false (text.drop s.a), s.wr⟩

theorem nextP_le (text : List UInt8) (s : PS) (h : s.a ≤ text.length) : (nextP text s).a ≤ text.length := by
  have h1 := skipS_le false (text.drop s.a)
  have h2 := wlen_le (text.drop (s.a + skipS false (text.drop s.a)))
  simp only [List.length_drop] at h1 h2
  simp only [nextP]; omega

set_option maxRecDepth 100000 in
theorem next_spec (text : List UInt8) (s : PS) (ha : s.a ≤ text.length) (hl : text.length ≤ 1000000) :
    Spec Try.prog 22 [.ptr 0 0] [.row (psr text s)] (fun r h' => r = .tup [] ∧ h' = [.row (psr text (nextP text s))]) := by
  have hsk := skipS_le false (text.drop s.a)
  simp only [List.length_drop] at hsk
  have hskip := skip_spec text s ha hl
  have hnx : nextP text s = ⟨s.a + skipS false (text.drop s.a) + wlen (text.drop (s.a + skipS false (text.drop s.a))), (text.drop (s.a + skipS false (text.drop s.a))).take (wlen (text.drop (s.a + skipS false (text.drop s.a)))), s.a + skipS false (text.drop s.a), s.wr⟩ := rfl
  rw [hnx]
  generalize hb : s.a + skipS false (text.drop s.a) = b at hskip ⊢
  obtain ⟨a, nt, na, wr⟩ := s
  simp only at ha hb hsk
  have hbl : b ≤ text.length := by omega
  refine Spec_of_body hT Try.func22 rfl rfl (rs := []) rfl rfl ?_
  intro E hE
  repeat (first | refine AWd_step hT rfl rfl rfl (by first | exact True.intro | exact (fun hh => hh) | omega | assumption | (intro hh; simp [gval, hh]; done) | (simp; omega)) ?_ | refine AWk_step hT rfl rfl (by first | exact True.intro | exact (fun hh => hh) | omega | assumption | (intro hh; simp [gval, hh]; done) | (simp; omega)) ?_ | refine AWk_step0 hT rfl (by first | exact True.intro | exact (fun hh => hh) | omega | assumption | (intro hh; simp [gval, hh]; done) | (simp; omega)) ?_ | refine AWd_nil ?_ | refine AWk_nil ?_ | refine AWd_gstep hT rfl rfl rfl rfl rfl (fun hg => ⟨by (first | exact True.intro | exact ⟨hg, True.intro⟩ | exact ⟨hg, hg, True.intro⟩ | (refine ⟨?_, True.intro⟩; simp at hg; simp [hg]; done) | (refine ⟨?_, ?_, True.intro⟩ <;> (simp at hg; simp [hg]; done))), by (first | exact True.intro | (intro hh; simp [gval, hh, hg]; done) | (intro hh; simp only [gval, hh, hg, Bool.not_false, Bool.not_true, Bool.and_true, Bool.true_and]; done) | (intro hh; simp only [gval] at hg; simp only [gval, hh, hg, Bool.not_false, Bool.and_true, Bool.true_and]; done) | (simp [gval] at hg; first | omega | (simp; done) | (simp; omega)))⟩) ?_ | refine AWk_gstep hT rfl rfl rfl rfl (fun hg => ⟨by (first | exact True.intro | exact ⟨hg, True.intro⟩ | exact ⟨hg, hg, True.intro⟩ | (refine ⟨?_, True.intro⟩; simp at hg; simp [hg]; done) | (refine ⟨?_, ?_, True.intro⟩ <;> (simp at hg; simp [hg]; done))), by (first | exact True.intro | (intro hh; simp [gval, hh, hg]; done) | (intro hh; simp only [gval, hh, hg, Bool.not_false, Bool.not_true, Bool.and_true, Bool.true_and]; done) | (intro hh; simp only [gval] at hg; simp only [gval, hh, hg, Bool.not_false, Bool.and_true, Bool.true_and]; done) | (simp [gval] at hg; first | omega | (simp; done) | (simp; omega)))⟩) ?_ | refine AW_seq ?_ | refine AW_region ?_ | refine AW_draw mixed (by kernel_rfl) ?_ | refine AW_block ?_ | refine AW_skip ?_ | refine AW_exit ?_ | refine AW_ret ?_)
  refine AWk_op (callS rfl rfl hskip [0] (by decide) rfl rfl rfl rfl rfl rfl) rfl ?_
  repeat (first | refine AWd_step hT rfl rfl rfl (by first | exact True.intro | exact (fun hh => hh) | omega | assumption | (intro hh; simp [gval, hh]; done) | (simp; omega)) ?_ | refine AWk_step hT rfl rfl (by first | exact True.intro | exact (fun hh => hh) | omega | assumption | (intro hh; simp [gval, hh]; done) | (simp; omega)) ?_ | refine AWk_step0 hT rfl (by first | exact True.intro | exact (fun hh => hh) | omega | assumption | (intro hh; simp [gval, hh]; done) | (simp; omega)) ?_ | refine AWd_nil ?_ | refine AWk_nil ?_ | refine AWd_gstep hT rfl rfl rfl rfl rfl (fun hg => ⟨by (first | exact True.intro | exact ⟨hg, True.intro⟩ | exact ⟨hg, hg, True.intro⟩ | (refine ⟨?_, True.intro⟩; simp at hg; simp [hg]; done) | (refine ⟨?_, ?_, True.intro⟩ <;> (simp at hg; simp [hg]; done))), by (first | exact True.intro | (intro hh; simp [gval, hh, hg]; done) | (intro hh; simp only [gval, hh, hg, Bool.not_false, Bool.not_true, Bool.and_true, Bool.true_and]; done) | (intro hh; simp only [gval] at hg; simp only [gval, hh, hg, Bool.not_false, Bool.and_true, Bool.true_and]; done) | (simp [gval] at hg; first | omega | (simp; done) | (simp; omega)))⟩) ?_ | refine AWk_gstep hT rfl rfl rfl rfl (fun hg => ⟨by (first | exact True.intro | exact ⟨hg, True.intro⟩ | exact ⟨hg, hg, True.intro⟩ | (refine ⟨?_, True.intro⟩; simp at hg; simp [hg]; done) | (refine ⟨?_, ?_, True.intro⟩ <;> (simp at hg; simp [hg]; done))), by (first | exact True.intro | (intro hh; simp [gval, hh, hg]; done) | (intro hh; simp only [gval, hh, hg, Bool.not_false, Bool.not_true, Bool.and_true, Bool.true_and]; done) | (intro hh; simp only [gval] at hg; simp only [gval, hh, hg, Bool.not_false, Bool.and_true, Bool.true_and]; done) | (simp [gval] at hg; first | omega | (simp; done) | (simp; omega)))⟩) ?_ | refine AW_seq ?_ | refine AW_region ?_ | refine AW_draw mixed (by kernel_rfl) ?_ | refine AW_block ?_ | refine AW_skip ?_ | refine AW_exit ?_ | refine AW_ret ?_)
  refine AW_loopL (ι := Nat) (fun _ => [(0, .ptr 0 0), (2, .d (.int .i64 b))]) (fun e => [.row (psr text ⟨e, nt, na, wr⟩)]) (fun e => b ≤ e ∧ e ≤ text.length ∧ e + lets (text.drop e) = b + lets (text.drop b)) (fun e => text.length - e) b ⟨by omega, by omega, rfl⟩ ⟨.refl _, .refl _, trivial⟩ (HLe.refl _) ?_
  intro e ⟨he1, he2, he3⟩
  repeat (first | refine AWd_step hT rfl rfl rfl (by first | exact True.intro | exact (fun hh => hh) | omega | assumption | (intro hh; simp [gval, hh]; done) | (simp; omega)) ?_ | refine AWk_step hT rfl rfl (by first | exact True.intro | exact (fun hh => hh) | omega | assumption | (intro hh; simp [gval, hh]; done) | (simp; omega)) ?_ | refine AWk_step0 hT rfl (by first | exact True.intro | exact (fun hh => hh) | omega | assumption | (intro hh; simp [gval, hh]; done) | (simp; omega)) ?_ | refine AWd_nil ?_ | refine AWk_nil ?_ | refine AWd_gstep hT rfl rfl rfl rfl rfl (fun hg => ⟨by (first | exact True.intro | exact ⟨hg, True.intro⟩ | exact ⟨hg, hg, True.intro⟩ | (refine ⟨?_, True.intro⟩; simp at hg; simp [hg]; done) | (refine ⟨?_, ?_, True.intro⟩ <;> (simp at hg; simp [hg]; done))), by (first | exact True.intro | (intro hh; simp [gval, hh, hg]; done) | (intro hh; simp only [gval, hh, hg, Bool.not_false, Bool.not_true, Bool.and_true, Bool.true_and]; done) | (intro hh; simp only [gval] at hg; simp only [gval, hh, hg, Bool.not_false, Bool.and_true, Bool.true_and]; done) | (simp [gval] at hg; first | omega | (simp; done) | (simp; omega)))⟩) ?_ | refine AWk_gstep hT rfl rfl rfl rfl (fun hg => ⟨by (first | exact True.intro | exact ⟨hg, True.intro⟩ | exact ⟨hg, hg, True.intro⟩ | (refine ⟨?_, True.intro⟩; simp at hg; simp [hg]; done) | (refine ⟨?_, ?_, True.intro⟩ <;> (simp at hg; simp [hg]; done))), by (first | exact True.intro | (intro hh; simp [gval, hh, hg]; done) | (intro hh; simp only [gval, hh, hg, Bool.not_false, Bool.not_true, Bool.and_true, Bool.true_and]; done) | (intro hh; simp only [gval] at hg; simp only [gval, hh, hg, Bool.not_false, Bool.and_true, Bool.true_and]; done) | (simp [gval] at hg; first | omega | (simp; done) | (simp; omega)))⟩) ?_ | refine AW_seq ?_ | refine AW_region ?_ | refine AW_draw mixed (by kernel_rfl) ?_ | refine AW_block ?_ | refine AW_skip ?_ | refine AW_exit ?_ | refine AW_ret ?_)
  refine AW_condL rfl (fun h1 => ?_) (fun h1 => ?_)
  · have h1' : e < text.length ∧ 97 ≤ strAt text e ∧ strAt text e ≤ 122 := by simpa [and_assoc] using h1
    have hlt := h1'.1
    have hd2 : text.drop e = text[e] :: text.drop (e + 1) := by simp
    have hwr2 : IntKind.i64.wrap ((e : Int) + 1) = ((e + 1 : Nat) : Int) := by rw [wrap_id (by omega)]; simp
    have hlow : isLow text[e] = true := by rw [strAt_get hlt] at h1'; simp [isLow]; omega
    rw [hd2, lets, if_pos hlow] at he3
    repeat (first | refine AWd_step hT rfl rfl rfl (by first | exact True.intro | exact (fun hh => hh) | omega | assumption | (intro hh; simp [gval, hh]; done) | (simp; omega)) ?_ | refine AWk_step hT rfl rfl (by first | exact True.intro | exact (fun hh => hh) | omega | assumption | (intro hh; simp [gval, hh]; done) | (simp; omega)) ?_ | refine AWk_step0 hT rfl (by first | exact True.intro | exact (fun hh => hh) | omega | assumption | (intro hh; simp [gval, hh]; done) | (simp; omega)) ?_ | refine AWd_nil ?_ | refine AWk_nil ?_ | refine AWd_gstep hT rfl rfl rfl rfl rfl (fun hg => ⟨by (first | exact True.intro | exact ⟨hg, True.intro⟩ | exact ⟨hg, hg, True.intro⟩ | (refine ⟨?_, True.intro⟩; simp at hg; simp [hg]; done) | (refine ⟨?_, ?_, True.intro⟩ <;> (simp at hg; simp [hg]; done))), by (first | exact True.intro | (intro hh; simp [gval, hh, hg]; done) | (intro hh; simp only [gval, hh, hg, Bool.not_false, Bool.not_true, Bool.and_true, Bool.true_and]; done) | (intro hh; simp only [gval] at hg; simp only [gval, hh, hg, Bool.not_false, Bool.and_true, Bool.true_and]; done) | (simp [gval] at hg; first | omega | (simp; done) | (simp; omega)))⟩) ?_ | refine AWk_gstep hT rfl rfl rfl rfl (fun hg => ⟨by (first | exact True.intro | exact ⟨hg, True.intro⟩ | exact ⟨hg, hg, True.intro⟩ | (refine ⟨?_, True.intro⟩; simp at hg; simp [hg]; done) | (refine ⟨?_, ?_, True.intro⟩ <;> (simp at hg; simp [hg]; done))), by (first | exact True.intro | (intro hh; simp [gval, hh, hg]; done) | (intro hh; simp only [gval, hh, hg, Bool.not_false, Bool.not_true, Bool.and_true, Bool.true_and]; done) | (intro hh; simp only [gval] at hg; simp only [gval, hh, hg, Bool.not_false, Bool.and_true, Bool.true_and]; done) | (simp [gval] at hg; first | omega | (simp; done) | (simp; omega)))⟩) ?_ | refine AW_seq ?_ | refine AW_region ?_ | refine AW_draw mixed (by kernel_rfl) ?_ | refine AW_block ?_ | refine AW_skip ?_ | refine AW_exit ?_ | refine AW_ret ?_)
    refine ⟨e + 1, ⟨by omega, by omega, by omega⟩, by omega, ⟨.refl _, .refl _, trivial⟩, ?_⟩
    exact ⟨⟨.refl _, AV.le.eq (by show AV.d (.int .i64 (IntKind.i64.wrap ((e : Int) + 1))) = _; rw [hwr2]), .refl _, .refl _, .refl _, trivial⟩, trivial⟩
  · have hend : lets (text.drop e) = 0 := by
      by_cases hlt : e < text.length
      · have hd2 : text.drop e = text[e] :: text.drop (e + 1) := by simp
        have : ¬ isLow text[e] = true := by
          intro hh
          rw [strAt_get hlt] at h1
          simp [isLow] at hh
          simp [hlt, hh] at h1
          omega
        rw [hd2, lets, if_neg this]
      · rw [List.drop_eq_nil_of_le (by omega)]; rfl
    have he : e = b + lets (text.drop b) := by omega
    have hcut : ∀ w : Nat, cutL text (b : Int) ((b + w : Nat) : Int) = (text.drop b).take w := by
      intro w; unfold cutL; congr 1; omega
    repeat (first | refine AW_exit ?_ | refine AW_skip ?_)
    refine AW_seq_cut (ι := Unit) (fun _ => [(0, .ptr 0 0), (2, .d (.int .i64 b))]) (fun _ => [.row (psr text ⟨b + wlen (text.drop b), nt, na, wr⟩)]) (fun _ => True) ?_ ?_
    · repeat (first | refine AWd_step hT rfl rfl rfl (by first | exact True.intro | exact (fun hh => hh) | omega | assumption | (intro hh; simp [gval, hh]; done) | (simp; omega)) ?_ | refine AWk_step hT rfl rfl (by first | exact True.intro | exact (fun hh => hh) | omega | assumption | (intro hh; simp [gval, hh]; done) | (simp; omega)) ?_ | refine AWk_step0 hT rfl (by first | exact True.intro | exact (fun hh => hh) | omega | assumption | (intro hh; simp [gval, hh]; done) | (simp; omega)) ?_ | refine AWd_nil ?_ | refine AWk_nil ?_ | refine AWd_gstep hT rfl rfl rfl rfl rfl (fun hg => ⟨by (first | exact True.intro | exact ⟨hg, True.intro⟩ | exact ⟨hg, hg, True.intro⟩ | (refine ⟨?_, True.intro⟩; simp at hg; simp [hg]; done) | (refine ⟨?_, ?_, True.intro⟩ <;> (simp at hg; simp [hg]; done))), by (first | exact True.intro | (intro hh; simp [gval, hh, hg]; done) | (intro hh; simp only [gval, hh, hg, Bool.not_false, Bool.not_true, Bool.and_true, Bool.true_and]; done) | (intro hh; simp only [gval] at hg; simp only [gval, hh, hg, Bool.not_false, Bool.and_true, Bool.true_and]; done) | (simp [gval] at hg; first | omega | (simp; done) | (simp; omega)))⟩) ?_ | refine AWk_gstep hT rfl rfl rfl rfl (fun hg => ⟨by (first | exact True.intro | exact ⟨hg, True.intro⟩ | exact ⟨hg, hg, True.intro⟩ | (refine ⟨?_, True.intro⟩; simp at hg; simp [hg]; done) | (refine ⟨?_, ?_, True.intro⟩ <;> (simp at hg; simp [hg]; done))), by (first | exact True.intro | (intro hh; simp [gval, hh, hg]; done) | (intro hh; simp only [gval, hh, hg, Bool.not_false, Bool.not_true, Bool.and_true, Bool.true_and]; done) | (intro hh; simp only [gval] at hg; simp only [gval, hh, hg, Bool.not_false, Bool.and_true, Bool.true_and]; done) | (simp [gval] at hg; first | omega | (simp; done) | (simp; omega)))⟩) ?_ | refine AW_seq ?_ | refine AW_region ?_ | refine AW_draw mixed (by kernel_rfl) ?_ | refine AW_block ?_ | refine AW_skip ?_ | refine AW_exit ?_ | refine AW_ret ?_)
      refine AW_condL rfl (fun h2 => ?_) (fun h2 => ?_)
      · have h2' : (e : Int) = b ∧ e < text.length := by simpa using h2
        have hw : wlen (text.drop b) = 1 := by
          unfold wlen; rw [if_pos ⟨by omega, by intro hn; rw [List.drop_eq_nil_iff] at hn; omega⟩]
        have hwr2 : IntKind.i64.wrap ((e : Int) + 1) = ((b + wlen (text.drop b) : Nat) : Int) := by rw [wrap_id (by omega), hw]; omega
        repeat (first | refine AWd_step hT rfl rfl rfl (by first | exact True.intro | exact (fun hh => hh) | omega | assumption | (intro hh; simp [gval, hh]; done) | (simp; omega)) ?_ | refine AWk_step hT rfl rfl (by first | exact True.intro | exact (fun hh => hh) | omega | assumption | (intro hh; simp [gval, hh]; done) | (simp; omega)) ?_ | refine AWk_step0 hT rfl (by first | exact True.intro | exact (fun hh => hh) | omega | assumption | (intro hh; simp [gval, hh]; done) | (simp; omega)) ?_ | refine AWd_nil ?_ | refine AWk_nil ?_ | refine AWd_gstep hT rfl rfl rfl rfl rfl (fun hg => ⟨by (first | exact True.intro | exact ⟨hg, True.intro⟩ | exact ⟨hg, hg, True.intro⟩ | (refine ⟨?_, True.intro⟩; simp at hg; simp [hg]; done) | (refine ⟨?_, ?_, True.intro⟩ <;> (simp at hg; simp [hg]; done))), by (first | exact True.intro | (intro hh; simp [gval, hh, hg]; done) | (intro hh; simp only [gval, hh, hg, Bool.not_false, Bool.not_true, Bool.and_true, Bool.true_and]; done) | (intro hh; simp only [gval] at hg; simp only [gval, hh, hg, Bool.not_false, Bool.and_true, Bool.true_and]; done) | (simp [gval] at hg; first | omega | (simp; done) | (simp; omega)))⟩) ?_ | refine AWk_gstep hT rfl rfl rfl rfl (fun hg => ⟨by (first | exact True.intro | exact ⟨hg, True.intro⟩ | exact ⟨hg, hg, True.intro⟩ | (refine ⟨?_, True.intro⟩; simp at hg; simp [hg]; done) | (refine ⟨?_, ?_, True.intro⟩ <;> (simp at hg; simp [hg]; done))), by (first | exact True.intro | (intro hh; simp [gval, hh, hg]; done) | (intro hh; simp only [gval, hh, hg, Bool.not_false, Bool.not_true, Bool.and_true, Bool.true_and]; done) | (intro hh; simp only [gval] at hg; simp only [gval, hh, hg, Bool.not_false, Bool.and_true, Bool.true_and]; done) | (simp [gval] at hg; first | omega | (simp; done) | (simp; omega)))⟩) ?_ | refine AW_seq ?_ | refine AW_region ?_ | refine AW_draw mixed (by kernel_rfl) ?_ | refine AW_block ?_ | refine AW_skip ?_ | refine AW_exit ?_ | refine AW_ret ?_)
        refine ⟨(), trivial, ⟨.refl _, .refl _, trivial⟩, ?_⟩
        exact ⟨⟨.refl _, AV.le.eq (by show AV.d (.int .i64 (IntKind.i64.wrap ((e : Int) + 1))) = _; rw [hwr2]), .refl _, .refl _, .refl _, trivial⟩, trivial⟩
      · have h2' : (e : Int) = b → text.length ≤ b := by intro hh; simpa [hh] using h2
        have hw : e = b + wlen (text.drop b) := by
          unfold wlen; rw [if_neg (by rintro ⟨h3, h4⟩; apply h4; rw [List.drop_eq_nil_iff]; have := h2' (by omega); omega)]; exact he
        subst hw
        repeat (first | refine AWd_step hT rfl rfl rfl (by first | exact True.intro | exact (fun hh => hh) | omega | assumption | (intro hh; simp [gval, hh]; done) | (simp; omega)) ?_ | refine AWk_step hT rfl rfl (by first | exact True.intro | exact (fun hh => hh) | omega | assumption | (intro hh; simp [gval, hh]; done) | (simp; omega)) ?_ | refine AWk_step0 hT rfl (by first | exact True.intro | exact (fun hh => hh) | omega | assumption | (intro hh; simp [gval, hh]; done) | (simp; omega)) ?_ | refine AWd_nil ?_ | refine AWk_nil ?_ | refine AWd_gstep hT rfl rfl rfl rfl rfl (fun hg => ⟨by (first | exact True.intro | exact ⟨hg, True.intro⟩ | exact ⟨hg, hg, True.intro⟩ | (refine ⟨?_, True.intro⟩; simp at hg; simp [hg]; done) | (refine ⟨?_, ?_, True.intro⟩ <;> (simp at hg; simp [hg]; done))), by (first | exact True.intro | (intro hh; simp [gval, hh, hg]; done) | (intro hh; simp only [gval, hh, hg, Bool.not_false, Bool.not_true, Bool.and_true, Bool.true_and]; done) | (intro hh; simp only [gval] at hg; simp only [gval, hh, hg, Bool.not_false, Bool.and_true, Bool.true_and]; done) | (simp [gval] at hg; first | omega | (simp; done) | (simp; omega)))⟩) ?_ | refine AWk_gstep hT rfl rfl rfl rfl (fun hg => ⟨by (first | exact True.intro | exact ⟨hg, True.intro⟩ | exact ⟨hg, hg, True.intro⟩ | (refine ⟨?_, True.intro⟩; simp at hg; simp [hg]; done) | (refine ⟨?_, ?_, True.intro⟩ <;> (simp at hg; simp [hg]; done))), by (first | exact True.intro | (intro hh; simp [gval, hh, hg]; done) | (intro hh; simp only [gval, hh, hg, Bool.not_false, Bool.not_true, Bool.and_true, Bool.true_and]; done) | (intro hh; simp only [gval] at hg; simp only [gval, hh, hg, Bool.not_false, Bool.and_true, Bool.true_and]; done) | (simp [gval] at hg; first | omega | (simp; done) | (simp; omega)))⟩) ?_ | refine AW_seq ?_ | refine AW_region ?_ | refine AW_draw mixed (by kernel_rfl) ?_ | refine AW_block ?_ | refine AW_skip ?_ | refine AW_exit ?_ | refine AW_ret ?_)
        exact ⟨(), trivial, ⟨.refl _, .refl _, trivial⟩, HLe.refl _⟩
    · intro _ _
      have hwl := wlen_le (text.drop b)
      simp only [List.length_drop] at hwl
      refine AW_drawG (fun i => bif Nat.beq i 4 || Nat.beq i 9 || Nat.beq i 15 then [0] else []) (fun i => bif Nat.beq i 15 then [0] else []) mixed (by kernel_rfl) ?_
      repeat (first | refine AWg_load hT rfl rfl rfl rfl (by first | (simp; done) | exact List.mem_cons_self | exact List.mem_cons_of_mem _ List.mem_cons_self) rfl ?_ | refine AWg_pure hT (fun _ => rfl) rfl rfl (by first | exact True.intro | exact (fun hh => hh) | omega | assumption | (intro hh; simp [gval, hh]; done) | (simp; omega)) ?_ | refine AWg_store hT rfl rfl rfl (by first | (simp; done) | exact List.mem_cons_self | exact List.mem_cons_of_mem _ List.mem_cons_self) rfl ?_ | refine AWd_nil ?_)
      refine ⟨_, _, _, rfl, fun _ _ h => h, rfl, rfl, rfl, rfl, rfl, ?_⟩
      simp only [List.take, List.length]
      rw [← hcut]; rfl
end Tdoc
