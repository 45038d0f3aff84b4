/- The reference reads a day. -/
import Derived.Test.YtnjanpmgonoeeaaGreatDoorK3
import Derived.Test.YtnjanpmgonoeeaaGreatDoorK5
import Derived.Test.YtnjanpmgonoeeaaGreatDoorK2
set_option linter.unusedVariables false
set_option linter.unusedSimpArgs false
namespace Tdoc
open Go Go.Proofs

def digD (s : List UInt8) (k : Nat) : Int := bI (s.getD k 0) - 48
def pN (s : List UInt8) (a i : Nat) : Int := if i ≤ a then 0 else if i = a + 1 then digD s a else 10 * digD s a + digD s (a + 1)
theorem isDig_iff (c : UInt8) : isDig c = true ↔ 48 ≤ bI c ∧ bI c ≤ 57 := by simp [isDig]

set_option maxHeartbeats 8000000 in
set_option maxRecDepth 100000 in
theorem dayParse_spec (s : List UInt8) (first : Int) (hs : s.length ≤ 1000000) : Spec Tryz.prog 170 [.d (.str s), .d (.int .i64 first)] [] (fun r h' => r = .tup [.d (.int .i64 (dayParse s first).1), .d (.int .i64 (dayParse s first).2)] ∧ h' = []) := by
  unfold dayParse
  refine Spec_of_body hT Tryz.func170 rfl rfl rfl rfl ?_; intro E hE
  refine ww ?_
  refine AW_condL rfl (fun c1 => ?_) (fun c1 => ?_)
  · have c1' : first < 1900 ∨ first > 2000 := by simpa using c1
    rw [if_pos c1']
    refine ww ?_
    exact wwr
  have c1' : ¬ (first < 1900 ∨ first > 2000) := by simpa using c1
  rw [if_neg c1']
  refine ww ?_
  refine AW_condL rfl (fun c2 => ?_) (fun c2 => ?_)
  · have c2' : s.length ≠ 6 := by simp at c2; omega
    rw [if_pos c2']
    refine ww ?_
    exact wwr
  have c2' : ¬ s.length ≠ 6 := by simp at c2; omega
  have hlen : s.length = 6 := by omega
  rw [if_neg c2']
  refine ww ?_
  refine AW_loopL (ι := Nat) (fun i => [(0, .d (.str s)), (1, .d (.int .i64 first)), (6, .ptr 0 0), (7, .d (.int .i64 (i : Int)))]) (fun i => [.row [.d (.int .i64 (pN s 0 i)), .d (.int .i64 (pN s 2 i)), .d (.int .i64 (pN s 4 i))]]) (fun i => i ≤ 6 ∧ ∀ k, k < i → isDig (s.getD k 0) = true) (fun i => 6 - i) 0 ⟨by omega, fun k hk => by omega⟩ ⟨.refl _, .refl _, .refl _, .refl _, trivial⟩ (HLe.refl _) ?_
  rintro i ⟨hi, hd⟩
  have hwr : IntKind.i64.wrap ((i : Int) + 1) = ((i + 1 : Nat) : Int) := by rw [wrap_id (by omega)]; simp
  have hall : (∀ k, k < 6 → isDig (s.getD k 0) = true) → s.all isDig = true := fun h => by
    rw [List.all_eq_true]
    intro c hc
    obtain ⟨k, hk, rfl⟩ := List.getElem_of_mem hc
    have := h k (by omega)
    rw [List.getD_eq_getElem?_getD, List.getElem?_eq_getElem hk] at this
    exact this
  have hdr : ∀ k, k < i → 0 ≤ digD s k ∧ digD s k ≤ 9 := fun k hk => by have := (isDig_iff _).1 (hd k hk); unfold digD; omega
  refine ww ?_
  refine AW_condL rfl (fun c3 => ?_) (fun c3 => ?_)
  · have c3' : i < 6 := by simp at c3; omega
    have hsa : strAt s (i : Int) = bI (s.getD i 0) := by unfold strAt bI; rw [List.getD_eq_getElem?_getD, Int.toNat_natCast]
    have hbr := bI_range (s.getD i 0)
    refine ww ?_
    refine AW_condL rfl (fun c4 => ?_) (fun c4 => ?_)
    · have c4' : s.all isDig = false := by
        rw [hsa] at c4
        have hn : isDig (s.getD i 0) = false := by
          cases hx : isDig (s.getD i 0) with
          | false => rfl
          | true => have := (isDig_iff _).1 hx; simp only [Bool.or_eq_true, decide_eq_true_eq] at c4; omega
        cases hx : s.all isDig with
        | false => rfl
        | true =>
          rw [List.all_eq_true] at hx
          have := hx (s.getD i 0) (by rw [List.getD_eq_getElem?_getD, List.getElem?_eq_getElem (by omega)]; exact List.getElem_mem _)
          rw [hn] at this; cases this
      rw [if_pos c4']
      refine ww ?_
      exact wwr
    · have c4' : isDig (s.getD i 0) = true := by rw [hsa] at c4; exact (isDig_iff _).2 (by simp only [Bool.or_eq_false_iff, decide_eq_false_iff_not] at c4; omega)
      have hdi := (isDig_iff _).1 c4'
      have hX : ∀ p : Int, 0 ≤ p ∧ p ≤ 9 → IntKind.i64.wrap (IntKind.i64.wrap (10 * p) + IntKind.i64.wrap (IntKind.u8.wrap (strAt s (i : Int) - 48))) = 10 * p + digD s i := fun p hp => by
        rw [hsa, wrapu8 (by omega), wrap_id (n := 10 * p) (by omega), wrap_id (n := bI (s.getD i 0) - 48) (by omega), wrap_id (by unfold digD at *; omega)]; rfl
      have hd' : ∀ k, k < i + 1 → isDig (s.getD k 0) = true := fun k hk => by
        by_cases h : k = i
        · rw [h]; exact c4'
        · exact hd k (by omega)
      refine wwe ?_
      have h6 : i = 0 ∨ i = 1 ∨ i = 2 ∨ i = 3 ∨ i = 4 ∨ i = 5 := by omega
      rcases h6 with rfl | rfl | rfl | rfl | rfl | rfl
      all_goals
        refine AW_drawG (fun i => bif Nat.beq i 5 || Nat.beq i 14 then [0] else []) (fun i => bif Nat.beq i 14 then [0] else []) mixed (by kernel_rfl) ?_
        refine wwg ?_
        refine AWg_opP (arrPtr_ok hT rfl rfl rfl rfl (by decide)) rfl rfl ?_
        refine wwg ?_
        refine AWg_opP (arrPtr_ok hT rfl rfl rfl rfl (by decide)) rfl rfl ?_
        refine wwg ?_
        refine ww ?_
      · exact ⟨1, ⟨by omega, hd'⟩, by omega, ⟨.refl _, .refl _, .refl _, .int hwr, trivial⟩, ⟨ObLe.row (by show [AV.d (.int .i64 _), _, _] = _; rw [hX _ (by simp [pN])]; simp [pN]), trivial⟩⟩
      · exact ⟨2, ⟨by omega, hd'⟩, by omega, ⟨.refl _, .refl _, .refl _, .int hwr, trivial⟩, ⟨ObLe.row (by show [AV.d (.int .i64 _), _, _] = _; rw [hX _ (by simp [pN]; exact hdr 0 (by omega))]; simp [pN]), trivial⟩⟩
      · exact ⟨3, ⟨by omega, hd'⟩, by omega, ⟨.refl _, .refl _, .refl _, .int hwr, trivial⟩, ⟨ObLe.row (by show [_, AV.d (.int .i64 _), _] = _; rw [hX _ (by simp [pN])]; simp [pN]), trivial⟩⟩
      · exact ⟨4, ⟨by omega, hd'⟩, by omega, ⟨.refl _, .refl _, .refl _, .int hwr, trivial⟩, ⟨ObLe.row (by show [_, AV.d (.int .i64 _), _] = _; rw [hX _ (by simp [pN]; exact hdr 2 (by omega))]; simp [pN]), trivial⟩⟩
      · exact ⟨5, ⟨by omega, hd'⟩, by omega, ⟨.refl _, .refl _, .refl _, .int hwr, trivial⟩, ⟨ObLe.row (by show [_, _, AV.d (.int .i64 _)] = _; rw [hX _ (by simp [pN])]; simp [pN]), trivial⟩⟩
      · exact ⟨6, ⟨by omega, hd'⟩, by omega, ⟨.refl _, .refl _, .refl _, .int hwr, trivial⟩, ⟨ObLe.row (by show [_, _, AV.d (.int .i64 _)] = _; rw [hX _ (by simp [pN]; exact hdr 4 (by omega))]; simp [pN]), trivial⟩⟩
  · have c3' : i = 6 := by simp at c3; omega
    subst c3'
    have hal := hall hd
    rw [if_neg (by rw [hal]; simp)]
    have e0 : pN s 0 6 = pairI s 0 := rfl
    have e2 : pN s 2 6 = pairI s 2 := rfl
    have e4 : pN s 4 6 = pairI s 4 := rfl
    have r0 : 0 ≤ pairI s 0 ∧ pairI s 0 ≤ 99 := by have a := hdr 0 (by omega); have b := hdr 1 (by omega); unfold digD at a b; unfold pairI; simp only [Nat.zero_add]; omega
    rw [e0, e2, e4]
    have ho := fun y => Of_spec y (pairI s 2) (pairI s 4)
    generalize pairI s 0 = p0 at *
    generalize pairI s 2 = p2 at *
    generalize pairI s 4 = p4 at *
    have ht : first.tmod 100 = first % 100 := Int.tmod_eq_emod_of_nonneg (by omega)
    have hy : IntKind.i64.wrap (IntKind.i64.wrap (first - first.tmod 100) + p0) = first - first.tmod 100 + p0 := by rw [wrap_id (n := first - first.tmod 100) (by omega), wrap_id (by omega)]
    have hy2 : IntKind.i64.wrap (IntKind.i64.wrap (IntKind.i64.wrap (first - first.tmod 100) + p0) + 100) = first - first.tmod 100 + p0 + 100 := by rw [hy, wrap_id (by omega)]
    refine ww ?_
    first | refine AWk_op (OpS_of_pure (arrPtr_ok hT rfl rfl rfl rfl (by decide))) rfl ?_ | refine AWd_op (OpS_of_pure (arrPtr_ok hT rfl rfl rfl rfl (by decide))) rfl rfl ?_
    refine wws ?_
    refine AW_seq_cut (ι := Unit) (fun _ => [(6, .ptr 0 0), (8, .d (.int .i64 (if first - first.tmod 100 + p0 < first then first - first.tmod 100 + p0 + 100 else first - first.tmod 100 + p0)))]) (fun _ => [.row [.d (.int .i64 p0), .d (.int .i64 p2), .d (.int .i64 p4)]]) (fun _ => True) ?_ (fun _ _ => ?_)
    · refine ww ?_
      refine AW_condL rfl (fun c5 => ?_) (fun c5 => ?_)
      · have c5' : first - first.tmod 100 + p0 < first := by rw [hy] at c5; simpa using c5
        rw [if_pos c5']
        refine ww ?_
        exact ⟨(), trivial, ⟨.refl _, .int hy2, trivial⟩, HLe.refl _⟩
      · have c5' : ¬ first - first.tmod 100 + p0 < first := by rw [hy] at c5; simpa using c5
        rw [if_neg c5']
        refine ww ?_
        exact ⟨(), trivial, ⟨.refl _, .int hy, trivial⟩, HLe.refl _⟩
    · have ho := ho (if first - first.tmod 100 + p0 < first then first - first.tmod 100 + p0 + 100 else first - first.tmod 100 + p0)
      simp only
      generalize (if first - first.tmod 100 + p0 < first then first - first.tmod 100 + p0 + 100 else first - first.tmod 100 + p0) = y at ho
      refine ww ?_
      first | refine AWk_op (OpS_of_pure (arrPtr_ok hT rfl rfl rfl rfl (by decide))) rfl ?_ | refine AWd_op (OpS_of_pure (arrPtr_ok hT rfl rfl rfl rfl (by decide))) rfl rfl ?_
      refine ww ?_
      first | refine AWk_op (OpS_of_pure (arrPtr_ok hT rfl rfl rfl rfl (by decide))) rfl ?_ | refine AWd_op (OpS_of_pure (arrPtr_ok hT rfl rfl rfl rfl (by decide))) rfl rfl ?_
      refine ww ?_
      refine wwc ho ?_
      refine ww ?_
      exact wwr
end Tdoc
/- The reference's parts of zones: letters, plain, dates of birth, additions; Valid. -/
set_option linter.unusedVariables false
set_option linter.unusedSimpArgs false
namespace Tdoc
open Go Go.Proofs

theorem isUp_iff (c : UInt8) : isUp c = true ↔ 65 ≤ bI c ∧ bI c ≤ 90 := by simp [isUp]
theorem all_split {p : UInt8 → Bool} {s : List UInt8} {i : Nat} (h : i < s.length) : (s.drop i).all p = (p s[i] && (s.drop (i + 1)).all p) := by rw [drop_cons h, List.all_cons]

set_option maxHeartbeats 8000000 in
set_option maxRecDepth 100000 in
theorem letters_spec (s : List UInt8) (most : Int) (hs : s.length ≤ 1000000) : Spec Tryz.prog 166 [.d (.str s), .d (.int .i64 most)] [] (fun r h' => r = .d (.bool (lettersF s most)) ∧ h' = []) := by
  generalize hfin : lettersF s most = fin
  unfold lettersF at hfin
  refine Spec_of_body hT Tryz.func166 rfl rfl rfl rfl ?_; intro E hE
  refine ww ?_
  refine AW_condL rfl (fun c1 => ?_) (fun c1 => ?_)
  · have c1' : ¬ (1 ≤ s.length ∧ (s.length : Int) ≤ most) := by simp at c1; omega
    rw [decide_eq_false c1', Bool.false_and] at hfin
    subst hfin
    refine ww ?_
    exact wwr
  have c1' : 1 ≤ s.length ∧ (s.length : Int) ≤ most := by simp at c1; omega
  rw [decide_eq_true c1', Bool.true_and] at hfin
  refine ww ?_
  refine AW_loopL (ι := Nat) (fun i => [(0, .d (.str s)), (5, .d (.int .i64 (i : Int)))]) (fun _ => []) (fun i => i ≤ s.length ∧ (s.drop i).all isUp = fin) (fun i => s.length - i) 0 ⟨by omega, by simpa using hfin⟩ ⟨.refl _, .refl _, trivial⟩ (HLe.refl _) ?_
  rintro i ⟨hi, hg⟩
  have hwr : IntKind.i64.wrap ((i : Int) + 1) = ((i + 1 : Nat) : Int) := by rw [wrap_id (by omega)]; simp
  refine ww ?_
  refine AW_condL rfl (fun c2 => ?_) (fun c2 => ?_)
  · have c2' : i < s.length := by simpa using c2
    have hsa := strAt_bI c2'
    rw [all_split c2'] at hg
    generalize s[i] = c at hsa hg
    refine ww ?_
    refine AW_condL rfl (fun c3 => ?_) (fun c3 => ?_)
    · have c3' : isUp c = false := by
        rw [hsa] at c3
        cases hx : isUp c with
        | false => rfl
        | true => have := (isUp_iff _).1 hx; simp only [Bool.or_eq_true, decide_eq_true_eq] at c3; omega
      rw [c3', Bool.false_and] at hg
      subst hg
      refine ww ?_
      exact wwr
    · have c3' : isUp c = true := by rw [hsa] at c3; exact (isUp_iff _).2 (by simp only [Bool.or_eq_false_iff, decide_eq_false_iff_not] at c3; omega)
      rw [c3', Bool.true_and] at hg
      refine ww ?_
      exact ⟨i + 1, ⟨by omega, hg⟩, by omega, ⟨.refl _, .int hwr, trivial⟩, HLe.refl _⟩
  · have c2' : i = s.length := by simp at c2; omega
    subst c2'
    rw [List.drop_length, List.all_nil] at hg
    subst hg
    refine ww ?_
    exact wwr

set_option maxHeartbeats 8000000 in
set_option maxRecDepth 100000 in
theorem plain_spec (s : List UInt8) (hs : s.length ≤ 1000000) : Spec Tryz.prog 168 [.d (.str s)] [] (fun r h' => r = .d (.bool (plainF s)) ∧ h' = []) := by
  generalize hfin : plainF s = fin
  unfold plainF at hfin
  refine Spec_of_body hT Tryz.func168 rfl rfl rfl rfl ?_; intro E hE
  refine ww ?_
  refine AW_loopL (ι := Nat) (fun i => [(0, .d (.str s)), (3, .d (.int .i64 (i : Int)))]) (fun _ => []) (fun i => i ≤ s.length ∧ (s.drop i).all (fun c => decide (c ≠ 60 ∧ 0 ≤ valC (bI c))) = fin) (fun i => s.length - i) 0 ⟨by omega, by simpa using hfin⟩ ⟨.refl _, .refl _, trivial⟩ (HLe.refl _) ?_
  rintro i ⟨hi, hg⟩
  have hwr : IntKind.i64.wrap ((i : Int) + 1) = ((i + 1 : Nat) : Int) := by rw [wrap_id (by omega)]; simp
  refine ww ?_
  refine AW_condL rfl (fun c2 => ?_) (fun c2 => ?_)
  · have c2' : i < s.length := by simpa using c2
    have hsa := strAt_bI c2'
    rw [all_split c2'] at hg
    have hr := bI_range s[i]
    have hc : bI s[i] = 60 ↔ s[i] = 60 := byte_eq (c := s[i]) (d := 60)
    generalize s[i] = c at hsa hg hr hc
    have hv := Value_spec (strAt s (i : Int)) (by rw [hsa]; exact hr)
    refine ww ?_
    refine wwgc hv ?_
    refine ww ?_
    refine AW_condL rfl (fun c3 => ?_) (fun c3 => ?_)
    · have c3' : ¬ (c ≠ 60 ∧ 0 ≤ valC (bI c)) := by
        rw [hsa] at c3
        simp only [Bool.or_eq_true, decide_eq_true_eq, beq_iff_eq] at c3
        rintro ⟨g1, g2⟩
        rcases c3 with h | h
        · exact g1 (hc.1 h)
        · omega
      rw [decide_eq_false c3', Bool.false_and] at hg
      subst hg
      refine ww ?_
      exact wwr
    · have c3' : c ≠ 60 ∧ 0 ≤ valC (bI c) := by
        rw [hsa] at c3
        simp only [Bool.or_eq_false_iff, decide_eq_false_iff_not, beq_eq_false_iff_ne] at c3
        exact ⟨fun h => c3.1 (hc.2 h), by omega⟩
      rw [decide_eq_true c3', Bool.true_and] at hg
      refine ww ?_
      exact ⟨i + 1, ⟨by omega, hg⟩, by omega, ⟨.refl _, .int hwr, trivial⟩, HLe.refl _⟩
  · have c2' : i = s.length := by simp at c2; omega
    subst c2'
    rw [List.drop_length, List.all_nil] at hg
    subst hg
    refine ww ?_
    exact wwr

set_option maxHeartbeats 8000000 in
set_option maxRecDepth 100000 in
theorem pair_spec (a b : UInt8) : Spec Tryz.prog 232 [.d (.str [a, b])] [] (fun r h' => r = .d (.int .i64 (pairF [a, b])) ∧ h' = []) := by
  have ha := bI_range a
  have hb := bI_range b
  have sa : strAt [a, b] 0 = bI a := rfl
  have sb : strAt [a, b] 1 = bI b := rfl
  have hpi : pairI [a, b] 0 = 10 * (bI a - 48) + (bI b - 48) := rfl
  have hga : isDig ([a, b].getD 0 0) = isDig a := rfl
  have hgb : isDig ([a, b].getD 1 0) = isDig b := rfl
  have hl : [a, b].length = 2 := rfl
  unfold pairF
  rw [hpi, hga, hgb]
  clear hpi hga hgb
  generalize [a, b] = s at sa sb hl ⊢
  refine Spec_of_body hT Tryz.func232 rfl rfl rfl rfl ?_; intro E hE
  refine ww ?_
  refine AW_condL rfl (fun c1 => ?_) (fun c1 => ?_)
  · have c1' : s = [60, 60] := by simpa using c1
    rw [if_pos c1']
    refine ww ?_
    exact wwr
  have c1' : ¬ s = [60, 60] := by simpa using c1
  rw [if_neg c1']
  refine ww ?_
  refine AW_condL rfl (fun c2 => ?_) (fun c2 => ?_)
  · have c2' : ¬ (isDig a = true ∧ isDig b = true) := by
      rintro ⟨g1, g2⟩
      have h1 := (isDig_iff _).1 g1
      have h2 := (isDig_iff _).1 g2
      rw [sa, sb] at c2
      simp only [Bool.or_eq_true, decide_eq_true_eq] at c2
      omega
    rw [if_neg c2']
    refine ww ?_
    exact wwr
  · have c2' : 48 ≤ bI a ∧ bI a ≤ 57 ∧ 48 ≤ bI b ∧ bI b ≤ 57 := by
      rw [sa, sb] at c2
      simp only [Bool.or_eq_false_iff, decide_eq_false_iff_not] at c2
      omega
    rw [if_pos ⟨(isDig_iff _).2 (by omega), (isDig_iff _).2 (by omega)⟩]
    have hw : IntKind.i64.wrap (IntKind.i64.wrap (10 * IntKind.i64.wrap (IntKind.u8.wrap (strAt s 0 - 48))) + IntKind.i64.wrap (IntKind.u8.wrap (strAt s 1 - 48))) = 10 * (bI a - 48) + (bI b - 48) := by
      rw [sa, sb, wrapu8 (n := bI a - 48) (by omega), wrapu8 (n := bI b - 48) (by omega), wrap_id (n := bI a - 48) (by omega), wrap_id (n := bI b - 48) (by omega), wrap_id (n := 10 * (bI a - 48)) (by omega), wrap_id (by omega)]
    refine ww ?_
    exact wwr

theorem six {s : List UInt8} (h : s.length = 6) : ∃ a b c d e f, s = [a, b, c, d, e, f] := by
  match s, h with
  | [a, b, c, d, e, f], _ => exact ⟨a, b, c, d, e, f, rfl⟩

set_option maxHeartbeats 8000000 in
set_option maxRecDepth 100000 in
theorem birth_spec (s : List UInt8) : Spec Tryz.prog 169 [.d (.str s)] [] (fun r h' => r = .d (.bool (birthF s)) ∧ h' = []) := by
  generalize hfin : birthF s = fin
  unfold birthF at hfin
  refine Spec_of_body hT Tryz.func169 rfl rfl rfl rfl ?_; intro E hE
  refine ww ?_
  refine AW_condL rfl (fun c1 => ?_) (fun c1 => ?_)
  · have c1' : ¬ s.length = 6 := by simp at c1; omega
    rw [decide_eq_false c1', Bool.false_and] at hfin
    subst hfin
    refine ww ?_
    exact wwr
  have c1' : s.length = 6 := by simp at c1; omega
  rw [decide_eq_true c1', Bool.true_and] at hfin
  obtain ⟨a, b, c, d, e, f, rfl⟩ := six c1'
  have h1 := pair_spec a b
  have h2 := pair_spec c d
  have h3 := pair_spec e f
  rw [show ([a, b, c, d, e, f].take 2) = [a, b] from rfl, show (([a, b, c, d, e, f].take 4).drop 2) = [c, d] from rfl, show ([a, b, c, d, e, f].drop 4) = [e, f] from rfl] at hfin
  generalize pairF [a, b] = p1 at h1 hfin
  generalize pairF [c, d] = p2 at h2 hfin
  generalize pairF [e, f] = p3 at h3 hfin
  subst hfin
  refine ww ?_
  refine wwc h1 ?_
  refine ww ?_
  refine wwc h2 ?_
  refine ww ?_
  refine wwc h3 ?_
  refine ww ?_
  refine rq ⟨rfl, rfl⟩ rfl (.bool ?_)
  by_cases g1 : p1 > -2 <;> by_cases g2 : p2 = -1 <;> by_cases g3 : 1 ≤ p2 <;> by_cases g4 : p2 ≤ 12 <;> by_cases g5 : p3 = -1 <;> by_cases g6 : 1 ≤ p3 <;> by_cases g7 : p3 ≤ 31 <;> simp [g1, g2, g3, g4, g5, g6, g7] <;> omega

set_option maxHeartbeats 8000000 in
set_option maxRecDepth 100000 in
theorem extra_spec (s : List UInt8) (hs : s.length ≤ 1000000) : Spec Tryz.prog 171 [.d (.str s)] [] (fun r h' => r = .d (.bool (extraF s)) ∧ h' = []) := by
  have hv := ValidS_spec s hs
  unfold extraF
  generalize validS s = ok at hv
  match s with
  | [] =>
    refine Spec_of_body hT Tryz.func171 rfl rfl rfl rfl ?_; intro E hE
    refine ww ?_
    refine wwc hv ?_
    refine ww ?_
    refine AWk_gstep hT rfl rfl rfl rfl (fun hg => absurd hg (by simp [gval])) ?_
    refine ww ?_
    refine AWk_gstep hT rfl rfl rfl rfl (fun hg => absurd hg (by simp [gval])) ?_
    refine ww ?_
    refine rq ⟨rfl, rfl⟩ rfl (.bool ?_)
    simp
  | c :: t =>
    have sa : strAt (c :: t) 0 = bI c := rfl
    have hlen : (c :: t).length = t.length + 1 := rfl
    have hlast : (c :: t).getLast? = some ((c :: t)[t.length]'(by simp)) := by
      rw [List.getLast?_eq_getElem?, List.length_cons, Nat.add_sub_cancel, List.getElem?_eq_getElem]
    have sb := strAt_bI (s := c :: t) (i := t.length) (by simp)
    rw [hlast, show (c :: t).head? = some c from rfl, show decide (c :: t = []) = false from rfl, Bool.false_or]
    generalize (c :: t)[t.length]'(by simp) = e at sb
    have hce : bI e = 60 ↔ e = 60 := byte_eq (c := e) (d := 60)
    have hcc : bI c = 60 ↔ c = 60 := byte_eq (c := c) (d := 60)
    have hne : ¬ c :: t = [] := by simp
    clear hlast
    generalize c :: t = s at hv hs sa hlen sb hne ⊢
    have hwl : IntKind.i64.wrap ((s.length : Int) - 1) = ((t.length : Nat) : Int) := by rw [wrap_id (by omega)]; omega
    refine Spec_of_body hT Tryz.func171 rfl rfl rfl rfl ?_; intro E hE
    refine ww ?_
    refine wwc hv ?_
    refine ww ?_
    refine rq ⟨rfl, rfl⟩ rfl (.bool ?_)
    rw [hwl, sa, sb]
    cases ok <;> by_cases g1 : c = 60 <;> by_cases g2 : e = 60 <;> simp [g1, g2, hcc, hce, hne, show bI 60 = 60 from rfl]
end Tdoc
/- The reference's zones: the room for additions; Valid. -/
set_option linter.unusedVariables false
set_option linter.unusedSimpArgs false
namespace Tdoc
open Go Go.Proofs

def zLen (z : Zon) : Prop := z.kind.length ≤ 10000 ∧ z.state.length ≤ 10000 ∧ z.sur.length ≤ 10000 ∧ z.giv.length ≤ 10000 ∧ z.num.length ≤ 10000 ∧ z.nat.length ≤ 10000 ∧ z.bir.length ≤ 10000 ∧ z.sex.length ≤ 10000 ∧ z.exp.length ≤ 10000 ∧ z.opt.length ≤ 10000 ∧ z.sec.length ≤ 10000

set_option maxHeartbeats 8000000 in
set_option maxRecDepth 100000 in
theorem room_spec (z : Zon) (h1 : 1 ≤ z.fmt ∧ z.fmt ≤ 3) (hn : z.num.length ≤ 1000000) : Spec Tryz.prog 172 [zAV z] [] (fun r h' => r = .d (.int .i64 (roomF z)) ∧ h' = []) := by
  obtain ⟨fmt, kind, state, sur, giv, num, nat, bir, sex, exp, opt, sec⟩ := z
  unfold roomF zAV zCells
  simp only at h1 hn ⊢
  generalize hr0 : (if fmt = 1 then (15 : Int) else if fmt = 2 then 7 else 14) = r0
  have hr1 : 0 ≤ r0 ∧ r0 ≤ 15 := by rw [← hr0]; split <;> (try split) <;> omega
  have har : ([.d (.int .i64 0), .d (.int .i64 15), .d (.int .i64 7), .d (.int .i64 14)] : List AV)[fmt.toNat]? = some (.d (.int .i64 r0)) := by
    have : fmt = 1 ∨ fmt = 2 ∨ fmt = 3 := by omega
    rcases this with rfl | rfl | rfl <;> subst hr0 <;> rfl
  refine Spec_of_body hT Tryz.func172 rfl rfl rfl rfl ?_; intro E hE
  refine AW_room ?_
  refine AW_seq (AW_region ?_)
  refine AWk_op (boxAt_ok (i0 := 0) rfl rfl rfl) rfl ?_
  refine ww ?_
  refine AWk_op (OpS_of_pure (arrIdx_ok hT rfl rfl rfl rfl (by show 0 ≤ fmt ∧ fmt < 4; omega) har)) rfl ?_
  refine ww ?_
  refine AW_condL rfl (fun c1 => ?_) (fun c1 => ?_)
  · have c1' : num.length > 9 := by simp at c1; omega
    rw [if_pos c1']
    have hw : IntKind.i64.wrap (r0 - IntKind.i64.wrap (IntKind.i64.wrap ((num.length : Int) - 9) + 2)) = r0 - ((num.length : Int) - 9 + 2) := by
      rw [wrap_id (n := (num.length : Int) - 9) (by omega), wrap_id (n := (num.length : Int) - 9 + 2) (by omega), wrap_id (by omega)]
    refine ww ?_
    exact wwr
  · have c1' : ¬ num.length > 9 := by simp at c1; omega
    rw [if_neg c1', Int.sub_zero]
    refine ww ?_
    exact wwr

set_option maxHeartbeats 8000000 in
set_option maxRecDepth 100000 in
theorem ValidZ_spec (z : Zon) (hz : zLen z) : Spec Tryz.prog 100 [zAV z] [] (fun r h' => r = .d (.int .i64 (validZ z)) ∧ h' = []) := by
  obtain ⟨z1, z2, z3, z4, z5, z6, z7, z8, z9, z10, z11⟩ := hz
  have hroom := fun h => room_spec z h (by omega)
  have hrr : -20000 ≤ roomF z ∧ roomF z ≤ 15 := by unfold roomF; split <;> (try split) <;> (try split) <;> omega
  have hk := letters_spec z.kind 2 (by omega)
  have hs := letters_spec z.state 3 (by omega)
  have hn := letters_spec z.nat 3 (by omega)
  have hsu := Name_spec z.sur (by omega)
  have hgi := Name_spec z.giv (by omega)
  have hpl := plain_spec z.num (by omega)
  have hbi := birth_spec z.bir
  have hpa := dayParse_spec z.exp 2000 (by omega)
  have hop := extra_spec z.opt (by omega)
  have hse := extra_spec z.sec (by omega)
  generalize hfin : validZ z = fin
  unfold validZ at hfin
  unfold zAV at hroom ⊢
  generalize roomF z = room at hfin hroom hrr
  obtain ⟨fmt, kind, state, sur, giv, num, nat, bir, sex, exp, opt, sec⟩ := z
  unfold zCells at hroom ⊢
  simp only at hfin hroom hk hs hn hsu hgi hpl hbi hpa hop hse z1 z2 z3 z4 z5 z6 z7 z8 z9 z10 z11 ⊢
  generalize lettersF kind 2 = b1 at hk hfin
  generalize lettersF state 3 = b2 at hs hfin
  generalize nameL true sur = b3 at hsu hfin
  generalize nameL true giv = b4 at hgi hfin
  generalize plainF num = b5 at hpl hfin
  generalize lettersF nat 3 = b6 at hn hfin
  generalize birthF bir = b7 at hbi hfin
  generalize extraF opt = b8 at hop hfin
  generalize extraF sec = b9 at hse hfin
  generalize dayParse exp 2000 = dp at hpa hfin
  obtain ⟨dd, de⟩ := dp
  simp only at hpa hfin
  refine Spec_of_body hT Tryz.func100 rfl rfl rfl rfl ?_; intro E hE
  refine AW_room ?_
  refine AW_seq (AW_region ?_)
  refine AWk_op (boxAt_ok (i0 := 0) rfl rfl rfl) rfl ?_
  refine ww ?_
  refine wwgc hk ?_
  refine ww ?_
  refine wwgc hs ?_
  refine ww ?_
  refine wwgc hsu ?_
  refine ww ?_
  refine wwgc hgi ?_
  refine ww ?_
  refine wwgc hpl ?_
  refine ww ?_
  refine AW_condL rfl (fun c1 => ?_) (fun c1 => ?_)
  · simp only [Bool.or_eq_true, Bool.not_eq_true', decide_eq_true_eq, beq_iff_eq, or_assoc] at c1
    rw [if_pos c1] at hfin
    subst hfin
    refine ww ?_
    exact wwr
  simp only [Bool.or_eq_false_iff, Bool.not_eq_false', decide_eq_false_iff_not, beq_eq_false_iff_ne, ne_eq, and_assoc] at c1
  obtain ⟨f1, f2, rfl, rfl, rfl, f3, rfl, f4, rfl⟩ := c1
  rw [if_neg (by simp; exact ⟨by omega, by omega, f3, f4⟩)] at hfin
  generalize hm0 : mostN fmt = m0 at hfin
  have har : ([.d (.int .i64 0), .d (.int .i64 20), .d (.int .i64 14), .d (.int .i64 9)] : List AV)[fmt.toNat]? = some (.d (.int .i64 m0)) := by
    have : fmt = 1 ∨ fmt = 2 ∨ fmt = 3 := by omega
    rcases this with rfl | rfl | rfl <;> subst hm0 <;> rfl
  refine ww ?_
  refine AWd_op (OpS_of_pure (arrIdx_ok hT rfl rfl rfl rfl (by show 0 ≤ fmt ∧ fmt < 4; omega) har)) rfl rfl ?_
  refine ww ?_
  refine AW_condL rfl (fun c2 => ?_) (fun c2 => ?_)
  · have c2' : (num.length : Int) > m0 := by simpa using c2
    rw [if_pos c2'] at hfin
    subst hfin
    refine ww ?_
    exact wwr
  have c2' : ¬ (num.length : Int) > m0 := by simpa using c2
  rw [if_neg c2'] at hfin
  refine ww ?_
  refine wwc hn ?_
  refine ww ?_
  refine AW_condL rfl (fun c3 => ?_) (fun c3 => ?_)
  · have c3' : b6 = false := by simpa using c3
    rw [if_pos c3'] at hfin
    subst hfin
    refine ww ?_
    exact wwr
  have c3' : ¬ b6 = false := by simpa using c3
  rw [if_neg c3'] at hfin
  refine ww ?_
  refine wwc hbi ?_
  refine ww ?_
  refine AW_condL rfl (fun c4 => ?_) (fun c4 => ?_)
  · have c4' : b7 = false := by simpa using c4
    rw [if_pos c4'] at hfin
    subst hfin
    refine ww ?_
    exact wwr
  have c4' : ¬ b7 = false := by simpa using c4
  rw [if_neg c4'] at hfin
  refine ww ?_
  refine AW_condL rfl (fun c5 => ?_) (fun c5 => ?_)
  · have c5' : sex ≠ [77] ∧ sex ≠ [70] ∧ sex ≠ [60] := by simpa [and_assoc] using c5
    rw [if_pos c5'] at hfin
    subst hfin
    refine ww ?_
    exact wwr
  have c5' : ¬ (sex ≠ [77] ∧ sex ≠ [70] ∧ sex ≠ [60]) := by rintro ⟨g1, g2, g3⟩; simp [g1, g2, g3] at c5
  rw [if_neg c5'] at hfin
  refine ww ?_
  refine wwc hpa ?_
  refine ww ?_
  refine AW_condL rfl (fun c6 => ?_) (fun c6 => ?_)
  · have c6' : de ≠ 0 := by simpa using c6
    rw [if_pos c6'] at hfin
    subst hfin
    refine ww ?_
    exact wwr
  have c6' : ¬ de ≠ 0 := by simpa using c6
  rw [if_neg c6'] at hfin
  refine ww ?_
  refine wwc hop ?_
  refine ww ?_
  refine wwgc hse ?_
  refine ww ?_
  refine AW_condL rfl (fun c7 => ?_) (fun c7 => ?_)
  · have c7' : b8 = false ∨ b9 = false ∨ (sec ≠ [] ∧ fmt ≠ 1) := by simpa [or_assoc] using c7
    rw [if_pos c7'] at hfin
    subst hfin
    refine ww ?_
    exact wwr
  have c7' : ¬ (b8 = false ∨ b9 = false ∨ (sec ≠ [] ∧ fmt ≠ 1)) := by
    intro hh
    have : ¬ (true = false) := by simp
    rcases hh with g | g | ⟨g1, g2⟩
    · simp [g] at c7
    · simp [g] at c7
    · simp [g1, g2] at c7
  rw [if_neg c7'] at hfin
  have hroom' := hroom ⟨by omega, by omega⟩
  refine ww ?_
  refine wwc hroom' ?_
  refine ww ?_
  refine AW_condL rfl (fun c8 => ?_) (fun c8 => ?_)
  · have c8' : (opt.length : Int) > room ∨ (sec.length : Int) > 11 := by simpa using c8
    rw [if_pos c8'] at hfin
    subst hfin
    refine ww ?_
    exact wwr
  have c8' : ¬ ((opt.length : Int) > room ∨ (sec.length : Int) > 11) := by
    simp only [Bool.or_eq_false_iff, decide_eq_false_iff_not] at c8
    omega
  rw [if_neg c8'] at hfin
  subst hfin
  refine ww ?_
  exact wwr
end Tdoc
/- The reference's zones: number, lines. -/
set_option linter.unusedVariables false
set_option linter.unusedSimpArgs false
namespace Tdoc
open Go Go.Proofs

def encSs (l : List (List UInt8)) : List (List Dat) := l.map fun s => [.str s]
theorem digit_len (s : List UInt8) : (digitF s).1.length ≤ 1 := by unfold digitF digitS; split <;> simp
theorem digit_one {s : List UInt8} (h : validS s = true) : (digitF s).1.length = 1 := by unfold digitF digitS; rw [if_pos h]; rfl
theorem validS_append : ∀ (a b : List UInt8), validS (a ++ b) = (validS a && validS b)
  | [], b => by simp [validS]
  | c :: a, b => by rw [List.cons_append, validS, validS, validS_append a b, Bool.and_assoc]
theorem validS_fill : ∀ (n : Nat), validS (List.replicate n 60) = true
  | 0 => rfl
  | n + 1 => by rw [List.replicate_succ, validS, validS_fill n]; rfl
theorem validS_wide {s : List UInt8} (n : Nat) (h : validS s = true) : validS (wideS s n) = true := by unfold wideS; rw [validS_append, h, validS_fill]; rfl
theorem valid_plain : ∀ {s : List UInt8}, plainF s = true → validS s = true
  | [], _ => rfl
  | c :: s, h => by
    rw [plainF, List.all_cons, Bool.and_eq_true, decide_eq_true_eq] at h
    rw [validS, valid_plain h.2, Bool.and_true, decide_eq_true_eq]
    exact h.1.2
theorem valid_dig : ∀ {s : List UInt8}, s.all isDig = true → validS s = true
  | [], _ => rfl
  | c :: s, h => by
    rw [List.all_cons, Bool.and_eq_true] at h
    have := (isDig_iff _).1 h.1
    rw [validS, valid_dig h.2, Bool.and_true, decide_eq_true_eq]
    unfold valC; rw [if_pos this]; omega
theorem valid_pair {a b : UInt8} (h : pairF [a, b] > -2) : validS [a, b] = true := by
  unfold pairF at h
  split at h
  · rename_i h1; rw [h1]; rfl
  · split at h
    · rename_i h1 h2
      exact valid_dig (by simp only [List.all_cons, List.all_nil, Bool.and_true, Bool.and_eq_true]; exact h2)
    · omega
theorem valid_birth {s : List UInt8} (h : birthF s = true) : s.length = 6 ∧ validS s = true := by
  unfold birthF at h
  simp only [Bool.and_eq_true, decide_eq_true_eq] at h
  obtain ⟨h1, h2, h3, h4⟩ := h
  obtain ⟨a, b, c, d, e, f, rfl⟩ := six h1
  refine ⟨rfl, ?_⟩
  have h2' : pairF [a, b] > -2 := h2
  have h3' : pairF [c, d] > -2 := by have : pairF [c, d] = -1 ∨ 1 ≤ pairF [c, d] ∧ pairF [c, d] ≤ 12 := h3; omega
  have h4' : pairF [e, f] > -2 := by have : pairF [e, f] = -1 ∨ 1 ≤ pairF [e, f] ∧ pairF [e, f] ≤ 31 := h4; omega
  rw [show [a, b, c, d, e, f] = [a, b] ++ ([c, d] ++ [e, f]) from rfl, validS_append, validS_append, valid_pair h2', valid_pair h3', valid_pair h4']
  rfl
theorem valid_day {s : List UInt8} {y : Int} (h : (dayParse s y).2 = 0) : s.length = 6 ∧ validS s = true := by
  unfold dayParse at h
  split at h
  · exact absurd h (by simp)
  split at h
  · exact absurd h (by simp)
  split at h
  · exact absurd h (by simp)
  rename_i h1 h2 h3
  exact ⟨by omega, valid_dig (by simpa using h3)⟩
theorem letters_len {s : List UInt8} {n : Int} (h : lettersF s n = true) : 1 ≤ s.length ∧ (s.length : Int) ≤ n := by
  unfold lettersF at h
  rw [Bool.and_eq_true, decide_eq_true_eq] at h
  exact h.1

structure ZOk (z : Zon) : Prop where
  fmt : 1 ≤ z.fmt ∧ z.fmt ≤ 3
  kind : z.kind.length ≤ 2
  state : z.state.length ≤ 3
  nat : z.nat.length ≤ 3
  bir : z.bir.length = 6 ∧ validS z.bir = true
  sex : z.sex.length = 1
  exp : z.exp.length = 6 ∧ validS z.exp = true
  num : 1 ≤ z.num.length ∧ (z.num.length : Int) ≤ mostN z.fmt ∧ validS z.num = true
  opt : (z.opt.length : Int) ≤ roomF z ∧ validS z.opt = true
  sec : z.sec.length ≤ 11 ∧ validS z.sec = true
theorem validZ_ok {z : Zon} (h : validZ z = 0) : ZOk z := by
  unfold validZ at h
  split at h
  · exact absurd h (by omega)
  split at h
  · exact absurd h (by omega)
  split at h
  · exact absurd h (by omega)
  split at h
  · exact absurd h (by omega)
  split at h
  · exact absurd h (by omega)
  split at h
  · exact absurd h (by omega)
  split at h
  · exact absurd h (by omega)
  split at h
  · exact absurd h (by omega)
  rename_i h1 h2 h3 h4 h5 h6 h7 h8
  simp only [not_or, Bool.not_eq_false] at h1 h3 h4 h7
  obtain ⟨f1, f2, f3, f4, f5, f6, f7, f8, f9⟩ := h1
  have hk := letters_len f3
  have hs := letters_len f4
  have hn := letters_len h3
  have hop : validS z.opt = true := by have := h7.1; unfold extraF at this; rw [Bool.and_eq_true] at this; exact this.1
  have hse : validS z.sec = true := by have := h7.2.1; unfold extraF at this; rw [Bool.and_eq_true] at this; exact this.1
  have hsx : z.sex.length = 1 := by
    by_cases g1 : z.sex = [77]
    · rw [g1]; rfl
    by_cases g2 : z.sex = [70]
    · rw [g2]; rfl
    by_cases g3 : z.sex = [60]
    · rw [g3]; rfl
    exact absurd ⟨g1, g2, g3⟩ h5
  have hnm : 1 ≤ z.num.length := by cases hx : z.num with
    | nil => exact absurd hx f8
    | cons a l => simp
  exact ⟨by omega, by omega, by omega, by omega, valid_birth h4, hsx, valid_day (by simpa using h6), ⟨hnm, by omega, valid_plain f9⟩, ⟨by omega, hop⟩, ⟨by omega, hse⟩⟩

set_option maxHeartbeats 8000000 in
set_option maxRecDepth 100000 in
theorem checked_spec (s : List UInt8) (hs : s.length ≤ 100000) : Spec Tryz.prog 103 [.d (.str s)] [] (fun r h' => r = .d (.str (checkedS s)) ∧ h' = []) := by
  have hd := Digit_spec s (by omega)
  have hl := digit_len s
  unfold checkedS
  generalize digitF s = q at hd hl
  obtain ⟨d, e⟩ := q
  simp only at hd hl ⊢
  refine Spec_of_body hT Tryz.func103 rfl rfl rfl rfl ?_; intro E hE
  refine ww ?_
  refine wwc hd ?_
  refine ww ?_
  exact wwr

set_option maxHeartbeats 8000000 in
set_option maxRecDepth 100000 in
theorem number_spec (s : List UInt8) (hs : s.length ≤ 10000) : Spec Tryz.prog 102 [.d (.str s)] [] (fun r h' => r = .tup [.d (.str (numberS s).1), .d (.str (numberS s).2)] ∧ h' = []) := by
  have hd := Digit_spec s (by omega)
  have hl := digit_len s
  have hw := Wide_spec s 9 (by omega) (by omega)
  have hwl := wideS_length s 9
  have hc := checked_spec (wideS s 9) (by omega)
  generalize hfin : numberS s = fin
  unfold numberS at hfin
  generalize digitF s = q at hd hl hfin
  obtain ⟨d, e⟩ := q
  generalize wideS s 9 = w at hw hwl hc hfin
  generalize checkedS w = cw at hc hfin
  simp only at hd hl hfin
  refine Spec_of_body hT Tryz.func102 rfl rfl rfl rfl ?_; intro E hE
  refine ww ?_
  refine AW_condL rfl (fun c1 => ?_) (fun c1 => ?_)
  · have c1' : s.length ≤ 9 := by simp at c1; omega
    rw [if_pos c1'] at hfin
    subst hfin
    refine ww ?_
    refine wwc hw ?_
    refine ww ?_
    refine wwc hc ?_
    refine ww ?_
    exact wwr
  · have c1' : ¬ s.length ≤ 9 := by simp at c1; omega
    rw [if_neg c1'] at hfin
    subst hfin
    refine ww ?_
    refine wwc hd ?_
    refine ww ?_
    exact wwr

theorem checked_len {s : List UInt8} (h : validS s = true) : (checkedS s).length = s.length + 1 := by unfold checkedS; rw [List.length_append, digit_one h]
theorem number_len {s : List UInt8} (h : validS s = true) (hl : 1 ≤ s.length) : (numberS s).1.length = 10 ∧ (numberS s).2.length = if s.length ≤ 9 then 0 else s.length - 9 + 2 := by
  unfold numberS
  split
  · rename_i h1
    refine ⟨?_, rfl⟩
    rw [checked_len (validS_wide 9 h), wideS_length]; omega
  · rename_i h1
    refine ⟨?_, ?_⟩
    · show (s.take 9 ++ [60]).length = 10
      rw [List.length_append, List.length_take]; simp; omega
    · show (s.drop 9 ++ (digitF s).1 ++ [60]).length = s.length - 9 + 2
      rw [List.length_append, List.length_append, List.length_drop, digit_one h]; simp
end Tdoc
/- The reference's zones: the lines. -/
set_option linter.unusedVariables false
set_option linter.unusedSimpArgs false
namespace Tdoc
open Go Go.Proofs

theorem cutS_L (s : List UInt8) (a b : Nat) : cutS s a b = cutL s (a : Int) (b : Int) := by simp [cutS, cutL, List.drop_take]
theorem cutL_len (s : List UInt8) (a b : Int) (h0 : 0 ≤ a) (h : b ≤ (s.length : Int)) : (cutL s a b).length = b.toNat - a.toNat := by simp [cutL]; omega

theorem names_len (s g : List UInt8) (w : Int) : (namesF s g w).1.length ≤ w.toNat := by
  unfold namesF
  split
  · simp
  split
  · simp
  · simp; omega

set_option maxHeartbeats 8000000 in
set_option maxRecDepth 100000 in
theorem Build_spec (z : Zon) (hz : zLen z) : Spec Tryz.prog 45 [zAV z] [] (fun r h' => r = .tup [.d (.sl 1 (encSs (buildF z).1)), .d (.int .i64 (buildF z).2)] ∧ h' = []) := by
  have hv := ValidZ_spec z hz
  by_cases h0 : validZ z = 0
  case neg =>
    unfold buildF
    rw [if_pos h0]
    generalize validZ z = e at hv h0
    obtain ⟨fmt, kind, state, sur, giv, num, nat, bir, sex, exp, opt, sec⟩ := z
    unfold zAV zCells at hv ⊢
    simp only at hv ⊢
    refine Spec_of_body hT Tryz.func45 rfl rfl rfl rfl ?_; intro E hE
    refine AW_room ?_
    refine AW_seq (AW_region ?_)
    refine AWk_op (boxAt_ok (i0 := 0) rfl rfl rfl) rfl ?_
    refine ww ?_
    refine wwc hv ?_
    refine ww ?_
    refine AW_condL rfl (fun c1 => ?_) (fun c1 => ?_)
    · refine ww ?_
      exact wwr
    · exact absurd (by simpa using c1) h0
  have ok := validZ_ok h0
  obtain ⟨z1, z2, z3, z4, z5, z6, z7, z8, z9, z10, z11⟩ := hz
  obtain ⟨o1, o2, o3, o4, o5, o6, o7, o8, o9, o10⟩ := ok
  have hb : buildF z = (buildZ z, 0) := by unfold buildF; rw [if_neg (by simp [h0])]
  rw [h0] at hv
  rw [hb]
  clear hb h0
  have hrm : roomF z + (if z.num.length ≤ 9 then 0 else (z.num.length : Int) - 9 + 2) ≤ (if z.fmt = 1 then 15 else if z.fmt = 2 then 7 else 14) := by
    unfold roomF; split <;> (try split) <;> (try split) <;> omega
  have hmost : mostN z.fmt ≤ 20 := by unfold mostN; split <;> (try split) <;> omega
  generalize roomF z = room at o9 hrm
  generalize hfin : buildZ z = fin
  obtain ⟨fmt, kind, state, sur, giv, num, nat, bir, sex, exp, opt, sec⟩ := z
  unfold zAV zCells at hv ⊢
  unfold buildZ at hfin
  simp only at hv hfin o1 o2 o3 o4 o5 o6 o7 o8 o9 o10 z1 z2 z3 z4 z5 z6 z7 z8 z9 z10 z11 hrm hmost ⊢
  have hk := Wide_spec kind 2 (by omega) (by omega)
  have hkl := wideS_length kind 2
  have hs := Wide_spec state 3 (by omega) (by omega)
  have hsl := wideS_length state 3
  have hna := Wide_spec nat 3 (by omega) (by omega)
  have hnal := wideS_length nat 3
  have hnu := number_spec num (by omega)
  have hnul := number_len o8.2.2 o8.1
  have hbd := checked_spec bir (by omega)
  have hbl := checked_len o5.2
  have hed := checked_spec exp (by omega)
  have hel := checked_len o7.2
  have hnm := Names_spec sur giv (nameW fmt) (by omega) (by omega)
  have hnml := names_len sur giv (nameW fmt)
  generalize wideS kind 2 = k2 at hk hkl hfin
  generalize wideS state 3 = s3 at hs hsl hfin
  generalize wideS nat 3 = n3 at hna hnal hfin
  generalize numberS num = nn at hnu hnul hfin
  obtain ⟨num1, num2⟩ := nn
  generalize checkedS bir = bd at hbd hbl hfin
  generalize checkedS exp = ed at hed hel hfin
  simp only at hnu hnul hfin
  generalize hm0 : nameW fmt = m0 at hnm hnml hfin
  have hm1 : m0 ≤ 39 := by rw [← hm0]; unfold nameW; split <;> (try split) <;> omega
  generalize namesF sur giv m0 = nf at hnm hnml hfin
  obtain ⟨nam, ne⟩ := nf
  simp only at hnm hnml hfin
  have har : ([.d (.int .i64 0), .d (.int .i64 30), .d (.int .i64 31), .d (.int .i64 39)] : List AV)[fmt.toNat]? = some (.d (.int .i64 m0)) := by
    have : fmt = 1 ∨ fmt = 2 ∨ fmt = 3 := by omega
    rcases this with rfl | rfl | rfl <;> subst hm0 <;> rfl
  have hn2 : num2.length ≤ 13 := by rw [hnul.2]; split <;> omega
  have hdl := fun s => digit_len s
  refine Spec_of_body hT Tryz.func45 rfl rfl rfl rfl ?_; intro E hE
  refine AW_room ?_
  refine AW_room ?_
  refine AW_seq (AW_region ?_)
  refine AWk_op (boxAt_ok (i0 := 0) rfl rfl rfl) rfl ?_
  refine ww ?_
  refine wwc hv ?_
  refine ww ?_
  refine AW_condL rfl (fun c1 => ?_) (fun c1 => ?_)
  · exact absurd c1 (by simp)
  refine ww ?_
  refine wwc hk ?_
  refine ww ?_
  refine wwc hs ?_
  refine ww ?_
  refine wwc hnu ?_
  refine wwn ?_
  refine AW_drawG (fun i => bif Nat.beq i 1 then [0] else bif Nat.beq i 4 then [0] else bif Nat.beq i 7 then [1] else bif Nat.beq i 8 then [1] else []) (fun i => bif Nat.beq i 7 then [1] else bif Nat.beq i 8 then [1] else []) mixed (by kernel_rfl) ?_
  refine wwg ?_
  refine wwdc hbd ?_
  refine wwg ?_
  refine wwdc hed ?_
  refine wwg ?_
  refine AWg_op (v := .ptr 1 0) (os := [.row [.d (.str []), .d (.str [])]]) (fun k hk1 hk2 => allocAt_ok (i0 := 1) (t := 129) (i := ⟨.array 2 9, 2, 32, [.d (.str []), .d (.str [])]⟩) hT rfl rfl (hk2 1 List.mem_cons_self)) rfl ?_
  refine wwg ?_
  refine ww ?_
  refine wwc hna ?_
  refine ww ?_
  refine AWk_op (OpS_of_pure (arrIdx_ok hT rfl rfl rfl rfl (by show 0 ≤ fmt ∧ fmt < 4; omega) har)) rfl ?_
  refine ww ?_
  refine wwc hnm ?_
  refine ww ?_
  refine AW_condL rfl (fun f1 => ?_) (fun f1 => ?_)
  · have f1' : fmt = 1 := by simpa using f1
    rw [if_pos f1'] at hfin
    have hw := Wide_spec (num2 ++ opt) 15 (by rw [List.length_append]; omega) (by omega)
    have hwl := wideS_length (num2 ++ opt) 15
    have hv := Wide_spec sec 11 (by omega) (by omega)
    have hvl := wideS_length sec 11
    rw [List.length_append] at hwl
    have hal : (k2 ++ s3 ++ num1 ++ wideS (num2 ++ opt) 15).length ≥ 30 := by simp only [List.length_append]; omega
    have hbl2 : (bd ++ sex ++ ed ++ n3 ++ wideS sec 11).length ≥ 29 := by simp only [List.length_append]; omega
    have hau : (k2 ++ s3 ++ num1 ++ wideS (num2 ++ opt) 15).length ≤ 100000 := by simp only [List.length_append]; omega
    have hbu : (bd ++ sex ++ ed ++ n3 ++ wideS sec 11).length ≤ 100000 := by simp only [List.length_append]; omega
    generalize wideS (num2 ++ opt) 15 = w15 at hw hwl hal hau hfin
    generalize wideS sec 11 = w11 at hv hvl hbl2 hbu hfin
    refine ww ?_
    refine wwc hw ?_
    refine ww ?_
    first | refine AWk_op (OpS_of_pure (arrPtr_ok hT rfl rfl rfl rfl (by decide))) rfl ?_ | refine AWd_op (OpS_of_pure (arrPtr_ok hT rfl rfl rfl rfl (by decide))) rfl rfl ?_
    refine ww ?_
    first | refine AWk_op (OpS_of_pure (arrPtr_ok hT rfl rfl rfl rfl (by decide))) rfl ?_ | refine AWd_op (OpS_of_pure (arrPtr_ok hT rfl rfl rfl rfl (by decide))) rfl rfl ?_
    refine ww ?_
    refine wwc hv ?_
    refine wws ?_
    generalize k2 ++ s3 ++ num1 ++ w15 = a at hal hau hfin ⊢
    generalize bd ++ sex ++ ed ++ n3 ++ w11 = b at hbl2 hbu hfin ⊢
    rw [show cutS a 5 30 = cutL a 5 30 from cutS_L a 5 30, show cutS b 0 7 = cutL b 0 7 from cutS_L b 0 7, show cutS b 8 15 = cutL b 8 15 from cutS_L b 8 15, show cutS b 18 29 = cutL b 18 29 from cutS_L b 18 29] at hfin
    have l1 : (cutL a 5 30).length = 25 := cutL_len a 5 30 (by omega) (by omega)
    have l2 : (cutL b 0 7).length = 7 := cutL_len b 0 7 (by omega) (by omega)
    have l3 : (cutL b 8 15).length = 7 := cutL_len b 8 15 (by omega) (by omega)
    have l4 : (cutL b 18 29).length = 11 := cutL_len b 18 29 (by omega) (by omega)
    have hd := Digit_spec (cutL a 5 30 ++ cutL b 0 7 ++ cutL b 8 15 ++ cutL b 18 29) (by simp only [List.length_append]; omega)
    have hdl2 := digit_len (cutL a 5 30 ++ cutL b 0 7 ++ cutL b 8 15 ++ cutL b 18 29)
    generalize digitF (cutL a 5 30 ++ cutL b 0 7 ++ cutL b 8 15 ++ cutL b 18 29) = q at hd hdl2 hfin
    obtain ⟨d, de⟩ := q
    simp only at hd hdl2 hfin
    subst hfin
    refine ww ?_
    refine wwc hd ?_
    refine ww ?_
    exact wwr
  have f1' : ¬ fmt = 1 := by simpa using f1
  rw [if_neg f1'] at hfin
  refine ww ?_
  refine AW_condL rfl (fun f2 => ?_) (fun f2 => ?_)
  · have f2' : fmt = 2 := by simpa using f2
    rw [if_pos f2'] at hfin
    have hw := Wide_spec (num2 ++ opt) 7 (by rw [List.length_append]; omega) (by omega)
    have hwl := wideS_length (num2 ++ opt) 7
    rw [List.length_append] at hwl
    have hbl2 : (num1 ++ n3 ++ bd ++ sex ++ ed ++ wideS (num2 ++ opt) 7).length ≥ 35 := by simp only [List.length_append]; omega
    have hbu : (num1 ++ n3 ++ bd ++ sex ++ ed ++ wideS (num2 ++ opt) 7).length ≤ 100000 := by simp only [List.length_append]; omega
    generalize wideS (num2 ++ opt) 7 = w7 at hw hwl hbl2 hbu hfin
    refine ww ?_
    first | refine AWk_op (OpS_of_pure (arrPtr_ok hT rfl rfl rfl rfl (by decide))) rfl ?_ | refine AWd_op (OpS_of_pure (arrPtr_ok hT rfl rfl rfl rfl (by decide))) rfl rfl ?_
    refine ww ?_
    first | refine AWk_op (OpS_of_pure (arrPtr_ok hT rfl rfl rfl rfl (by decide))) rfl ?_ | refine AWd_op (OpS_of_pure (arrPtr_ok hT rfl rfl rfl rfl (by decide))) rfl rfl ?_
    refine ww ?_
    refine wwc hw ?_
    refine wws ?_
    generalize num1 ++ n3 ++ bd ++ sex ++ ed ++ w7 = b at hbl2 hbu hfin ⊢
    rw [show cutS b 0 10 = cutL b 0 10 from cutS_L b 0 10, show cutS b 13 20 = cutL b 13 20 from cutS_L b 13 20, show cutS b 21 35 = cutL b 21 35 from cutS_L b 21 35] at hfin
    have l1 : (cutL b 0 10).length = 10 := cutL_len b 0 10 (by omega) (by omega)
    have l2 : (cutL b 13 20).length = 7 := cutL_len b 13 20 (by omega) (by omega)
    have l3 : (cutL b 21 35).length = 14 := cutL_len b 21 35 (by omega) (by omega)
    have hd := Digit_spec (cutL b 0 10 ++ cutL b 13 20 ++ cutL b 21 35) (by simp only [List.length_append]; omega)
    have hdl2 := digit_len (cutL b 0 10 ++ cutL b 13 20 ++ cutL b 21 35)
    generalize digitF (cutL b 0 10 ++ cutL b 13 20 ++ cutL b 21 35) = q at hd hdl2 hfin
    obtain ⟨d, de⟩ := q
    simp only at hd hdl2 hfin
    subst hfin
    refine ww ?_
    refine wwc hd ?_
    refine ww ?_
    exact wwr
  have f2' : ¬ fmt = 2 := by simpa using f2
  rw [if_neg f2'] at hfin
  have hw := Wide_spec opt 14 (by omega) (by omega)
  have hwl := wideS_length opt 14
  have hd0 := Digit_spec (wideS opt 14) (by omega)
  have hdl0 := digit_len (wideS opt 14)
  have hd1 : (digitF (wideS opt 14)).1.length = 1 := digit_one (validS_wide 14 o9.2)
  generalize wideS opt 14 = w14 at hw hwl hd0 hdl0 hd1 hfin
  generalize digitF w14 = q0 at hd0 hdl0 hd1 hfin
  obtain ⟨d0, de0⟩ := q0
  simp only at hd0 hdl0 hd1 hfin
  have fin2 : ∀ o : List UInt8, o = (if opt = [] then [60] else d0) → o.length = 1 → (num1 ++ n3 ++ bd ++ sex ++ ed ++ w14 ++ o).length ≥ 43 ∧ (num1 ++ n3 ++ bd ++ sex ++ ed ++ w14 ++ o).length ≤ 100000 := fun o ho h1 => by
    simp only [List.length_append, h1]; omega
  refine wwe ?_
  refine AW_seq (AW_region ?_)
  refine wws ?_
  generalize hoe : (if opt = [] then [60] else d0) = o at hfin fin2
  refine AW_seq_cut (ι := Unit) (fun _ => [(1, .ptr 0 0), (5, .d (.str (k2 ++ s3))), (6, .d (.str num1)), (8, .ptr 1 0), (9, .d (.str n3)), (11, .d (.str nam)), (20, .d (.str o))])
    (fun _ => [.row [.d (.int .i64 fmt), .d (.str kind), .d (.str state), .d (.str sur), .d (.str giv), .d (.str num), .d (.str nat), .d (.str bir), .d (.str sex), .d (.str exp), .d (.str opt), .d (.str sec)], .row [.d (.str bd), .d (.str ed)]]) (fun _ => o.length = 1) ?_ (fun _ ho => ?_)
  · refine ww ?_
    refine AW_condL rfl (fun f3 => ?_) (fun f3 => ?_)
    · have f3' : ¬ opt = [] := by simpa using f3
      rw [if_neg f3'] at hoe
      subst hoe
      refine ww ?_
      refine wwc hw ?_
      refine ww ?_
      refine wwc hd0 ?_
      refine ww ?_
      exact ⟨(), hd1, ⟨.refl _, .refl _, .refl _, .refl _, .refl _, .refl _, .refl _, trivial⟩, HLe.refl _⟩
    · have f3' : opt = [] := by simpa using f3
      rw [if_pos f3'] at hoe
      subst hoe
      refine ww ?_
      exact ⟨(), rfl, ⟨.refl _, .refl _, .refl _, .refl _, .refl _, .refl _, .refl _, trivial⟩, HLe.refl _⟩
  obtain ⟨hbl2, hbu⟩ := fin2 o rfl ho
  refine ww ?_
  first | refine AWk_op (OpS_of_pure (arrPtr_ok hT rfl rfl rfl rfl (by decide))) rfl ?_ | refine AWd_op (OpS_of_pure (arrPtr_ok hT rfl rfl rfl rfl (by decide))) rfl rfl ?_
  refine ww ?_
  first | refine AWk_op (OpS_of_pure (arrPtr_ok hT rfl rfl rfl rfl (by decide))) rfl ?_ | refine AWd_op (OpS_of_pure (arrPtr_ok hT rfl rfl rfl rfl (by decide))) rfl rfl ?_
  refine ww ?_
  refine wwc hw ?_
  refine wws ?_
  generalize num1 ++ n3 ++ bd ++ sex ++ ed ++ w14 ++ o = b at hbl2 hbu hfin ⊢
  rw [show cutS b 0 10 = cutL b 0 10 from cutS_L b 0 10, show cutS b 13 20 = cutL b 13 20 from cutS_L b 13 20, show cutS b 21 43 = cutL b 21 43 from cutS_L b 21 43] at hfin
  have l1 : (cutL b 0 10).length = 10 := cutL_len b 0 10 (by omega) (by omega)
  have l2 : (cutL b 13 20).length = 7 := cutL_len b 13 20 (by omega) (by omega)
  have l3 : (cutL b 21 43).length = 22 := cutL_len b 21 43 (by omega) (by omega)
  have hd := Digit_spec (cutL b 0 10 ++ cutL b 13 20 ++ cutL b 21 43) (by simp only [List.length_append]; omega)
  have hdl2 := digit_len (cutL b 0 10 ++ cutL b 13 20 ++ cutL b 21 43)
  generalize digitF (cutL b 0 10 ++ cutL b 13 20 ++ cutL b 21 43) = q at hd hdl2 hfin
  obtain ⟨d, de⟩ := q
  simp only at hd hdl2 hfin
  subst hfin
  refine ww ?_
  refine wwc hd ?_
  refine ww ?_
  exact wwr
end Tdoc
/- The reference's objects of a byte or two. -/
set_option linter.unusedVariables false
set_option linter.unusedSimpArgs false
namespace Tdoc
open Go Go.Proofs

theorem PrimW_spec (t x : Int) : Spec Tryz.prog 67 [.d (.int .i64 t), .d (.sl 1 [[.int .u8 (IntKind.u8.wrap x)]])] [] (fun r h' => r = .agg [.d (.int .i64 t), .d (.sl 1 (encB [bOf x])), .d (.sl 3 [])] ∧ h' = []) := by
  rw [bOf_wrap]; exact Prim_spec t [bOf x] (by simp)
theorem PrimW2_spec (t x y : Int) : Spec Tryz.prog 67 [.d (.int .i64 t), .d (.sl 1 [[.int .u8 (IntKind.u8.wrap x)], [.int .u8 (IntKind.u8.wrap y)]])] [] (fun r h' => r = .agg [.d (.int .i64 t), .d (.sl 1 (encB [bOf x, bOf y])), .d (.sl 3 [])] ∧ h' = []) := by
  rw [bOf_wrap, bOf_wrap]; exact Prim_spec t [bOf x, bOf y] (by simp)
theorem PrimH_spec (t x : Int) : Spec Tryz.prog 67 [.d (.int .i64 t), .d (.sl 1 [[.int .u8 (IntKind.u8.wrap (Int.fdiv x (2 ^ (min (8 : Int).toNat IntKind.i64.bits))))], [.int .u8 (IntKind.u8.wrap x)]])] [] (fun r h' => r = .agg [.d (.int .i64 t), .d (.sl 1 (encB [bOf (x / 256), bOf x])), .d (.sl 3 [])] ∧ h' = []) := by
  rw [bOf_hi, bOf_wrap]; exact Prim_spec t [bOf (x / 256), bOf x] (by simp)
theorem PrimB_spec (t : Int) (v : List UInt8) (hv : v.length ≤ 1000000000) : Spec Tryz.prog 67 [.d (.int .i64 t), .d (.sl 1 (encB v))] [] (fun r h' => r = .agg [.d (.int .i64 t), .d (.sl 1 (encB v)), .d (.sl 3 [])] ∧ h' = []) := Prim_spec t v hv
theorem ConsK_spec (t : Int) (k : List Node) : Spec Tryz.prog 110 [.d (.int .i64 t), .d (.sl 3 (encNs k))] [] (fun r h' => r = .agg [.d (.int .i64 t), .d (.sl 1 []), .d (.sl 3 (encNs k))] ∧ h' = []) := Cons_spec t k
end Tdoc
/- The reference's templates: Valid, the object, Encode. -/
set_option linter.unusedVariables false
set_option linter.unusedSimpArgs false
namespace Tdoc
open Go Go.Proofs

set_option maxHeartbeats 8000000 in
set_option maxRecDepth 100000 in
theorem ValidT_spec (t : Tpl) : Spec Tryz.prog 132 [tAV t] [] (fun r h' => r = .d (.int .i64 (validT t)) ∧ h' = []) := by
  obtain ⟨kind, part, frm, til, fmt, qual, data⟩ := t
  have hv1 := ValidD_spec frm
  have hv2 := ValidD_spec til
  have hl := encB_length data
  generalize hfin : validT ⟨kind, part, frm, til, fmt, qual, data⟩ = fin
  unfold validT dayOk at hfin
  unfold tAV tCells
  simp only at hfin ⊢
  generalize decide (0 ≤ frm ∧ frm ≤ 73048) = d1 at hv1 hfin
  generalize decide (0 ≤ til ∧ til ≤ 73048) = d2 at hv2 hfin
  generalize encB data = eb at hl
  refine Spec_of_body hT Tryz.func132 rfl rfl rfl rfl ?_; intro E hE
  refine AW_room ?_
  refine AW_seq (AW_region ?_)
  refine AWk_op (boxAt_ok (i0 := 0) rfl rfl rfl) rfl ?_
  refine wws ?_
  refine AW_seq (AW_region ?_)
  refine wws ?_
  refine AW_seq_cut (ι := Int) (fun m => [(1, .ptr 0 0), (3, .d (.int .i64 m))]) (fun _ => [.row [.d (.int .i64 kind), .d (.int .i64 part), .d (.int .i64 frm), .d (.int .i64 til), .d (.int .i64 fmt), .d (.int .i64 qual), .d (.sl 1 eb)]]) (fun m => (kind = 1 ∨ kind = 2 ∨ kind = 3) ∧ m = mostT kind) ?_ ?_
  · refine ww ?_
    refine AW_condL rfl (fun k1 => ?_) (fun k1 => ?_)
    · have k1' : kind = 1 := by simpa using k1
      refine ww ?_
      refine wwe ?_
      exact ⟨0, ⟨.inl k1', by rw [k1']; rfl⟩, ⟨.refl _, .refl _, trivial⟩, HLe.refl _⟩
    have k1' : ¬ kind = 1 := by simpa using k1
    refine ww ?_
    refine AW_condL rfl (fun k2 => ?_) (fun k2 => ?_)
    · have k2' : kind = 2 := by simpa using k2
      refine ww ?_
      refine wwe ?_
      exact ⟨10, ⟨.inr (.inl k2'), by rw [k2']; rfl⟩, ⟨.refl _, .refl _, trivial⟩, HLe.refl _⟩
    have k2' : ¬ kind = 2 := by simpa using k2
    refine ww ?_
    refine AW_condL rfl (fun k3 => ?_) (fun k3 => ?_)
    · have k3' : kind = 3 := by simpa using k3
      refine ww ?_
      refine wwe ?_
      exact ⟨2, ⟨.inr (.inr k3'), by rw [k3']; rfl⟩, ⟨.refl _, .refl _, trivial⟩, HLe.refl _⟩
    have k3' : ¬ kind = 3 := by simpa using k3
    rw [if_pos ⟨k1', k2', k3'⟩] at hfin
    subst hfin
    refine ww ?_
    exact wwr
  rintro m ⟨hk, hm⟩
  rw [if_neg (by omega), ← hm] at hfin
  refine ww ?_
  refine AW_condL rfl (fun c1 => ?_) (fun c1 => ?_)
  · have c1' : part < 0 ∨ part > m ∨ (m > 0 ∧ part = 0) := by simpa [or_assoc] using c1
    rw [if_pos c1'] at hfin
    subst hfin
    refine ww ?_
    exact wwr
  have c1' : ¬ (part < 0 ∨ part > m ∨ (m > 0 ∧ part = 0)) := by
    intro hh
    have : (decide (part < 0) || decide (part > m) || (decide (m > 0) && decide (part = 0))) = true := by simpa [or_assoc] using hh
    simp only [Bool.or_eq_false_iff, Bool.and_eq_false_iff, decide_eq_false_iff_not, beq_eq_false_iff_ne] at c1
    omega
  rw [if_neg c1'] at hfin
  refine ww ?_
  refine wwc hv1 ?_
  refine ww ?_
  refine wwgc hv2 ?_
  refine ww ?_
  refine AW_condL rfl (fun c2 => ?_) (fun c2 => ?_)
  · have c2' : d1 = false ∨ d2 = false ∨ frm > til := by simpa [or_assoc] using c2
    rw [if_pos c2'] at hfin
    subst hfin
    refine ww ?_
    exact wwr
  have c2' : ¬ (d1 = false ∨ d2 = false ∨ frm > til) := by
    rintro (g | g | g)
    · simp [g] at c2
    · simp [g] at c2
    · simp only [Bool.or_eq_false_iff, decide_eq_false_iff_not] at c2; omega
  rw [if_neg c2'] at hfin
  refine ww ?_
  refine AW_condL rfl (fun c3 => ?_) (fun c3 => ?_)
  · have c3' : fmt < 0 ∨ fmt > 65535 ∨ qual < 0 ∨ qual > 100 := by simpa [or_assoc] using c3
    rw [if_pos c3'] at hfin
    subst hfin
    refine ww ?_
    exact wwr
  have c3' : ¬ (fmt < 0 ∨ fmt > 65535 ∨ qual < 0 ∨ qual > 100) := by
    simp only [Bool.or_eq_false_iff, decide_eq_false_iff_not] at c3; omega
  rw [if_neg c3'] at hfin
  refine ww ?_
  refine AW_condL rfl (fun c4 => ?_) (fun c4 => ?_)
  · have c4' : data.length < 1 ∨ data.length > 1024 := by simp only [Bool.or_eq_true, decide_eq_true_eq] at c4; omega
    rw [if_pos c4'] at hfin
    subst hfin
    refine ww ?_
    exact wwr
  have c4' : ¬ (data.length < 1 ∨ data.length > 1024) := by simp only [Bool.or_eq_false_iff, decide_eq_false_iff_not] at c4; omega
  rw [if_neg c4'] at hfin
  subst hfin
  refine ww ?_
  exact wwr

set_option maxHeartbeats 8000000 in
set_option maxRecDepth 100000 in
theorem objT_spec (t : Tpl) (hv : validT t = 0) : Spec Tryz.prog 133 [tAV t] [] (fun r h' => r = nAV (objT t) ∧ h' = []) := by
  have ok := validT_ok hv
  obtain ⟨kind, part, frm, til, fmt, qual, data⟩ := t
  simp only at ok
  obtain ⟨frm, rfl⟩ : ∃ n : Nat, frm = (n : Int) := ⟨frm.toNat, by omega⟩
  obtain ⟨til, rfl⟩ : ∃ n : Nat, til = (n : Int) := ⟨til.toNat, by omega⟩
  have hf1 := Four_spec frm (by omega)
  have hf2 := Four_spec til (by omega)
  have h1 := PrimW_spec 129 kind
  have h2 := PrimW_spec 130 part
  have h3 := PrimB_spec 131 (octB 4 frm) (by rw [octB_length]; omega)
  have h4 := PrimB_spec 132 (octB 4 til) (by rw [octB_length]; omega)
  have h5 := PrimW_spec 133 qual
  have h6 := PrimH_spec 136 fmt
  have h7 := PrimB_spec 24366 data (by omega)
  have hc1 := ConsK_spec 161 (headT ⟨kind, part, (frm : Int), (til : Int), fmt, qual, data⟩)
  have hc2 := ConsK_spec 32608 [.mk 161 [] (headT ⟨kind, part, (frm : Int), (til : Int), fmt, qual, data⟩), .mk 24366 data []]
  unfold objT
  simp only [headT, Int.toNat_natCast] at hc1 hc2 ⊢
  unfold tAV tCells
  simp only
  refine Spec_of_body hT Tryz.func133 rfl rfl rfl rfl ?_; intro E hE
  refine AW_room ?_
  refine AW_room ?_
  refine AW_seq (AW_region ?_)
  refine AWk_op (boxAt_ok (i0 := 0) rfl rfl rfl) rfl ?_
  refine AWk_op (allocAt_ok (i0 := 1) hT rfl rfl rfl) rfl ?_
  refine ww ?_
  refine wwc h1 ?_
  refine ww ?_
  refine wwc h2 ?_
  refine ww ?_
  refine wwc hf1 ?_
  refine ww ?_
  refine wwc h3 ?_
  refine ww ?_
  refine wwc hf2 ?_
  refine ww ?_
  refine wwc h4 ?_
  refine ww ?_
  refine wwc h5 ?_
  refine ww ?_
  refine wwc h6 ?_
  refine wwn ?_
  refine AW_drawG (fun i => bif Nat.beq i 3 then [0] else bif Nat.beq i 7 then [1] else []) (fun i => bif Nat.beq i 7 then [1] else []) mixed (by kernel_rfl) ?_
  refine wwg ?_
  refine wwdc hc1 ?_
  refine wwg ?_
  refine wwdc h7 ?_
  refine wwg ?_
  refine AWg_op (os := []) (fun k hk1 hk2 => buildSl_ok hT rfl rfl) rfl ?_
  refine wwg ?_
  refine wwdc hc2 ?_
  refine wwg ?_
  refine ww ?_
  exact wwr

set_option maxHeartbeats 8000000 in
set_option maxRecDepth 100000 in
theorem encTR_spec (l : List Tpl) (hl : l.length ≤ 1000000) : Spec Tryz.prog 71 [.d (.sl 7 (encTs l))] [] (fun r h' => r = .tup [.d (.sl 3 (encNs (encTR l).1)), .d (.int .i64 (encTR l).2)] ∧ h' = []) := by
  have hll := encTs_length l
  have hp := PrimW_spec 2 (l.length : Int)
  unfold encTR
  refine Spec_of_body hT Tryz.func71 rfl rfl rfl rfl ?_; intro E hE
  refine ww ?_
  refine AW_condL rfl (fun c1 => ?_) (fun c1 => ?_)
  · have c1' : l.length < 1 ∨ l.length > 8 := by simp only [Bool.or_eq_true, decide_eq_true_eq] at c1; omega
    rw [if_pos c1']
    refine ww ?_
    exact wwr
  have c1' : ¬ (l.length < 1 ∨ l.length > 8) := by simp only [Bool.or_eq_false_iff, decide_eq_false_iff_not] at c1; omega
  rw [if_neg c1']
  rw [← hll] at hp
  refine wwe ?_
  refine AW_seq (AW_region ?_)
  refine wws ?_
  refine wwc hp ?_
  refine wws ?_
  refine AW_room ?_
  refine AW_acquireAt 4 3 0 (es := encNs [.mk 2 [bOf (l.length : Int)] []]) (.inl (by rw [hll]; rfl)) rfl ?_
  generalize hfin : firstT l = e
  refine ww ?_
  refine AW_loopL (ι := Nat) (fun i => [(0, .d (.sl 7 (encTs l))), (4, .sl 3 (encNs (.mk 2 [bOf (l.length : Int)] [] :: (l.take i).map objT)) (.right 0)), (5, .d (.int .i64 (i : Int)))]) (fun i => [.right 3 (encNs (.mk 2 [bOf (l.length : Int)] [] :: (l.take i).map objT)).length])
    (fun i => i ≤ l.length ∧ firstT (l.drop i) = e) (fun i => l.length - i) 0 ⟨by omega, by simpa using hfin⟩ ⟨.refl _, .refl _, .refl _, trivial⟩ (HLe.refl _) ?_
  rintro i ⟨hi, hg⟩
  have hwr : IntKind.i64.wrap ((i : Int) + 1) = ((i + 1 : Nat) : Int) := by rw [wrap_id (by omega)]; simp
  have hkl : (encNs (.mk 2 [bOf (l.length : Int)] [] :: (l.take i).map objT)).length ≤ 9 := by rw [encNs_length]; simp; omega
  refine ww ?_
  refine AW_condL rfl (fun c2 => ?_) (fun c2 => ?_)
  · have c2' : i < l.length := by rw [hll] at c2; simpa using c2
    have hel := encTs_at c2'
    have hdr : l.drop i = l[i] :: l.drop (i + 1) := List.drop_eq_getElem_cons c2'
    have htk : encNs (.mk 2 [bOf (l.length : Int)] [] :: (l.take (i + 1)).map objT) = encNs (.mk 2 [bOf (l.length : Int)] [] :: (l.take i).map objT) ++ [encN (objT l[i])] := by
      rw [List.take_succ_eq_append_getElem c2', List.map_append]
      show encNs ((.mk 2 [bOf (l.length : Int)] [] :: (l.take i).map objT) ++ [objT l[i]]) = _
      rw [encNs_append]; rfl
    rw [hdr, firstT] at hg
    have hv := ValidT_spec l[i]
    have ho := objT_spec l[i]
    generalize l[i] = t at hel hv ho hg htk
    generalize encNs (.mk 2 [bOf (l.length : Int)] [] :: (l.take i).map objT) = ks at hkl htk
    unfold tAV tCells at hv ho
    refine ww ?_
    refine wwi hel ?_
    refine ww ?_
    refine wwc hv ?_
    refine ww ?_
    refine AW_condL rfl (fun c3 => ?_) (fun c3 => ?_)
    · have c3' : validT t ≠ 0 := by simpa using c3
      rw [if_pos c3'] at hg
      rw [if_pos (by rw [← hg]; exact c3')]
      subst hg
      refine ww ?_
      exact wwr
    · have c3' : validT t = 0 := by simpa using c3
      rw [if_neg (by simp [c3'])] at hg
      have ho := ho c3'
      have ho' : Spec Tryz.prog 133 [.agg [.d (.int .i64 t.kind), .d (.int .i64 t.part), .d (.int .i64 t.frm), .d (.int .i64 t.til), .d (.int .i64 t.fmt), .d (.int .i64 t.qual), .d (.sl 1 (encB t.data))]] [] (fun r h' => r = .agg ((encN (objT t)).map .d) ∧ h' = []) := ho
      generalize hnode : encN (objT t) = nd at ho' htk
      unfold objT at hnode
      rw [show encN (.mk 32608 [] [.mk 161 [] (headT t), .mk 24366 t.data []]) = [.int .i64 32608, .sl 1 [], .sl 3 (encNs [.mk 161 [] (headT t), .mk 24366 t.data []])] from rfl] at hnode
      subst hnode
      refine ww ?_
      refine wwi hel ?_
      refine ww ?_
      refine wwc ho' ?_
      refine ww ?_
      refine AWk_op (append_rightL (i := 0) hT rfl rfl rfl rfl rfl rfl (by show (ks.length + 1) * (56 + 1) ≤ _; first | omega | (simp only [encB_length, encNs_length, List.length_append, List.length_cons, List.length_nil]; omega))) rfl ?_
      refine ww ?_
      exact ⟨i + 1, ⟨by omega, hg⟩, by omega, ⟨.refl _, AV.le.eq (by rw [htk]; rfl), .int hwr, trivial⟩, ⟨⟨rfl, by rw [htk]⟩, trivial⟩⟩
  · have c2' : i = l.length := by rw [hll] at c2; simp at c2; omega
    subst c2'
    rw [List.drop_length, firstT] at hg
    subst hg
    rw [if_neg (by simp)]
    have hcs := ConsK_spec 32609 (kidsT l)
    rw [List.take_length]
    unfold kidsT at hcs ⊢
    refine wwe ?_
    refine AW_subL (l := [(4, .d (.sl 3 (encNs (.mk 2 [bOf (l.length : Int)] [] :: l.map objT))))]) (h' := [.right 3 (encNs (.mk 2 [bOf (l.length : Int)] [] :: l.map objT)).length]) ⟨AV.le.dat, trivial⟩ (HLe.refl _) ?_
    refine ww ?_
    refine wwc hcs ?_
    refine ww ?_
    exact wwr
end Tdoc
/- The reference's infos: Valid, identifier, object, Set. -/
set_option linter.unusedVariables false
set_option linter.unusedSimpArgs false
namespace Tdoc
open Go Go.Proofs

set_option maxHeartbeats 8000000 in
set_option maxRecDepth 100000 in
theorem idB_spec (p : Int) : Spec Tryz.prog 211 [.d (.int .i64 p)] [] (fun r h' => r = .d (.sl 1 (encB (idB p))) ∧ h' = []) := by
  unfold idB
  refine Spec_of_body hT Tryz.func211 rfl rfl rfl rfl ?_; intro E hE
  refine ww ?_
  refine AW_condL rfl (fun c1 => ?_) (fun c1 => ?_)
  · rw [if_pos (show p = 2 by simpa using c1)]
    refine ww ?_
    refine AWk_op (append_full (es := encB [4, 0, 127, 0, 7, 2, 2]) hT rfl rfl rfl (.inl rfl) rfl (by decide)) rfl ?_
    refine ww ?_
    exact wwr
  rw [if_neg (show ¬ p = 2 by simpa using c1)]
  refine ww ?_
  refine AW_condL rfl (fun c2 => ?_) (fun c2 => ?_)
  · rw [if_pos (show p = 3 by simpa using c2)]
    refine ww ?_
    refine AWk_op (append_full (es := encB [4, 0, 127, 0, 7, 2, 2]) hT rfl rfl rfl (.inl rfl) rfl (by decide)) rfl ?_
    refine ww ?_
    exact wwr
  rw [if_neg (show ¬ p = 3 by simpa using c2)]
  refine ww ?_
  refine AW_condL rfl (fun c3 => ?_) (fun c3 => ?_)
  · rw [if_pos (show p = 4 by simpa using c3)]
    refine ww ?_
    refine AWk_op (append_full (es := encB [4, 0, 127, 0, 7, 2, 2]) hT rfl rfl rfl (.inl rfl) rfl (by decide)) rfl ?_
    refine ww ?_
    exact wwr
  rw [if_neg (show ¬ p = 4 by simpa using c3)]
  refine ww ?_
  refine AW_condL rfl (fun c4 => ?_) (fun c4 => ?_)
  · rw [if_pos (show p = 5 by simpa using c4)]
    refine ww ?_
    refine AWk_op (append_full (es := encB [4, 0, 127, 0, 7, 2, 2]) hT rfl rfl rfl (.inl rfl) rfl (by decide)) rfl ?_
    refine ww ?_
    exact wwr
  rw [if_neg (show ¬ p = 5 by simpa using c4)]
  refine ww ?_
  refine AWk_op (append_full (es := encB [4, 0, 127, 0, 7, 2, 2]) hT rfl rfl rfl (.inl rfl) rfl (by decide)) rfl ?_
  refine ww ?_
  exact wwr

theorem idB_length (p : Int) : (idB p).length = 9 := by unfold idB; split <;> (try split) <;> (try split) <;> (try split) <;> rfl

def KeyOk (x : Inf) : Prop := x.proto = 4 → 0 ≤ x.key ∧ x.key < 4611686018427387904

set_option maxHeartbeats 8000000 in
set_option maxRecDepth 100000 in
theorem objI_spec (x : Inf) (hk : KeyOk x) : Spec Tryz.prog 140 [.agg (fCells x)] [] (fun r h' => r = nAV (objI x) ∧ h' = []) := by
  obtain ⟨p, ver, par, key, kid⟩ := x
  unfold KeyOk at hk
  simp only at hk
  unfold objI fCells
  simp only
  have h1 := idB_spec p
  have hil := idB_length p
  have h2 := PrimB_spec 6 (idB p) (by omega)
  have h3 := PrimW_spec 2 ver
  have h4 := PrimW_spec 2 par
  have h5 := PrimW_spec 2 kid
  generalize idB p = ib at h1 h2
  generalize hx : (if p = 2 ∨ p = 3 then [Node.mk 2 [bOf par] []] else if p = 4 then [.mk 4 (octB 4 key.toNat) [], .mk 2 [bOf kid] []] else []) = ex
  have hc := ConsK_spec 48 ([.mk 6 ib [], .mk 2 [bOf ver] []] ++ ex)
  refine Spec_of_body hT Tryz.func140 rfl rfl rfl rfl ?_; intro E hE
  refine AW_room ?_
  refine AW_room ?_
  refine AW_seq (AW_region ?_)
  refine AWk_op (boxAt_ok (i0 := 0) rfl rfl rfl) rfl ?_
  refine AWk_op (allocAt_ok (i0 := 1) hT rfl rfl rfl) rfl ?_
  refine wws ?_
  refine AW_seq ?_
  refine wx mixed ?_
  refine wws ?_
  refine wwc h1 ?_
  refine wws ?_
  refine wwc h2 ?_
  refine wws ?_
  refine wwc h3 ?_
  refine wws ?_
  refine AW_seq_cut (ι := Unit) (fun _ => [(2, .ptr 1 0), (3, .d (.sl 3 (encNs ([.mk 6 ib [], .mk 2 [bOf ver] []] ++ ex))))]) (fun _ => [.row [.d (.int .i64 p), .d (.int .i64 ver), .d (.int .i64 par), .d (.int .i64 key), .d (.int .i64 kid)], .row [.d (.int .i64 0), .sl 1 [] .full, .sl 3 [] .full]]) (fun _ => True) ?_ ?_
  · refine ww ?_
    refine AW_condL rfl (fun k1 => ?_) (fun k1 => ?_)
    · have k1' : p = 2 := by simpa using k1
      rw [if_pos (.inl k1')] at hx
      subst hx
      refine ww ?_
      refine AW_condL rfl (fun k2 => ?_) (fun k2 => ?_)
      · refine ww ?_
        refine wwc h4 ?_
        refine ww ?_
        refine AWk_op (append_full (es := encNs [.mk 6 ib [], .mk 2 [bOf ver] []]) hT rfl rfl rfl (.inl rfl) rfl (by show (2 + _) * (56 + 1) ≤ _; simp)) rfl ?_
        refine ww ?_
        refine wwe ?_
        exact ⟨(), trivial, ⟨.refl _, .refl _, trivial⟩, HLe.refl _⟩
      · exact absurd k2 (by simp [k1'])
    have k1' : ¬ p = 2 := by simpa using k1
    refine ww ?_
    refine AW_condL rfl (fun k2 => ?_) (fun k2 => ?_)
    · have k2' : p = 3 := by simpa using k2
      rw [if_pos (.inr k2')] at hx
      subst hx
      refine ww ?_
      refine wwc h4 ?_
      refine ww ?_
      refine AWk_op (append_full (es := encNs [.mk 6 ib [], .mk 2 [bOf ver] []]) hT rfl rfl rfl (.inl rfl) rfl (by show (2 + _) * (56 + 1) ≤ _; simp)) rfl ?_
      refine ww ?_
      refine wwe ?_
      exact ⟨(), trivial, ⟨.refl _, .refl _, trivial⟩, HLe.refl _⟩
    have k2' : ¬ p = 3 := by simpa using k2
    rw [if_neg (by omega)] at hx
    refine ww ?_
    refine AW_condL rfl (fun k3 => ?_) (fun k3 => ?_)
    · have k3' : p = 4 := by simpa using k3
      rw [if_pos k3'] at hx
      subst hx
      obtain ⟨g1, g2⟩ := hk k3'
      obtain ⟨key, rfl⟩ : ∃ n : Nat, key = (n : Int) := ⟨key.toNat, by omega⟩
      have hf := Four_spec key (by omega)
      have h6 := PrimB_spec 4 (octB 4 key) (by rw [octB_length]; omega)
      rw [Int.toNat_natCast]
      refine ww ?_
      refine wwc hf ?_
      refine ww ?_
      refine wwc h6 ?_
      refine ww ?_
      refine wwc h5 ?_
      refine ww ?_
      refine AWd_op (append_full (es := encNs [.mk 6 ib [], .mk 2 [bOf ver] []]) hT rfl rfl rfl (.inl rfl) rfl (by show (2 + _) * (56 + 1) ≤ _; simp)) rfl rfl ?_
      refine ww ?_
      refine wwe ?_
      exact ⟨(), trivial, ⟨.refl _, .refl _, trivial⟩, HLe.refl _⟩
    · have k3' : ¬ p = 4 := by simpa using k3
      rw [if_neg k3'] at hx
      subst hx
      refine ww ?_
      refine wwe ?_
      exact ⟨(), trivial, ⟨.refl _, AV.le.dat, trivial⟩, HLe.refl _⟩
  · rintro _ _
    refine ww ?_
    refine wwc hc ?_
    refine ww ?_
    exact wwr

set_option maxHeartbeats 8000000 in
set_option maxRecDepth 100000 in
theorem setI_spec (l : List Inf) (hl : l.length ≤ 1000000) (hk : ∀ x ∈ l, KeyOk x) : Spec Tryz.prog 78 [.d (.sl 5 (encFs l))] [] (fun r h' => r = nAV (setI l) ∧ h' = []) := by
  have hll := encFs_length l
  have hc := ConsK_spec 49 (l.map objI)
  unfold setI
  refine Spec_of_body hT Tryz.func78 rfl rfl rfl rfl ?_; intro E hE
  refine AW_room ?_
  refine AW_room ?_
  refine AW_seq (AW_region ?_)
  refine AWk_op (allocAt_ok (i0 := 0) hT rfl rfl rfl) rfl ?_
  refine wws ?_
  refine AW_seq (AW_region ?_)
  refine wws ?_
  refine AW_acquireAt 3 3 1 (es := []) (.inr ⟨rfl, rfl⟩) rfl ?_
  refine ww ?_
  refine AW_loopL (ι := Nat) (fun i => [(0, .d (.sl 5 (encFs l))), (2, .ptr 0 0), (3, .sl 3 (encNs ((l.take i).map objI)) (.right 1)), (4, .d (.int .i64 (i : Int)))]) (fun i => [.row [.d (.int .i64 0), .sl 1 [] .full, .sl 3 [] .full], .right 3 (encNs ((l.take i).map objI)).length])
    (fun i => i ≤ l.length) (fun i => l.length - i) 0 (by omega) ⟨.refl _, .refl _, .refl _, .refl _, trivial⟩ (HLe.refl _) ?_
  rintro i hi
  have hwr : IntKind.i64.wrap ((i : Int) + 1) = ((i + 1 : Nat) : Int) := by rw [wrap_id (by omega)]; simp
  have hkl : (encNs ((l.take i).map objI)).length ≤ 1000000 := by rw [encNs_length]; simp; omega
  refine ww ?_
  refine AW_condL rfl (fun c2 => ?_) (fun c2 => ?_)
  · have c2' : i < l.length := by rw [hll] at c2; simpa using c2
    have hel := encFs_at c2'
    have htk : encNs ((l.take (i + 1)).map objI) = encNs ((l.take i).map objI) ++ [encN (objI l[i])] := by
      rw [List.take_succ_eq_append_getElem c2', List.map_append, encNs_append]; rfl
    have ho := objI_spec l[i] (hk l[i] (List.getElem_mem _))
    generalize l[i] = x at hel ho htk
    generalize encNs ((l.take i).map objI) = ks at hkl htk
    unfold fCells at ho
    obtain ⟨kk, hkk, ho'⟩ : ∃ kk : List Node, encN (objI x) = [.int .i64 48, .sl 1 [], .sl 3 (encNs kk)] ∧ Spec Tryz.prog 140 [.agg [.d (.int .i64 x.proto), .d (.int .i64 x.ver), .d (.int .i64 x.par), .d (.int .i64 x.key), .d (.int .i64 x.kid)]] [] (fun r h' => r = .agg [.d (.int .i64 48), .d (.sl 1 []), .d (.sl 3 (encNs kk))] ∧ h' = []) := ⟨_, rfl, ho⟩
    rw [hkk] at htk
    clear ho hkk
    refine ww ?_
    refine wwi hel ?_
    refine ww ?_
    refine wwc ho' ?_
    refine ww ?_
    refine AWk_op (append_rightL (i := 1) hT rfl rfl rfl rfl rfl rfl (by show (ks.length + 1) * (56 + 1) ≤ _; first | omega | (simp only [encB_length, encNs_length, List.length_append, List.length_cons, List.length_nil]; omega))) rfl ?_
    refine ww ?_
    exact ⟨i + 1, by omega, by omega, ⟨.refl _, .refl _, AV.le.eq (by rw [htk]; rfl), .int hwr, trivial⟩, ⟨ObLe.refl _, ⟨rfl, by rw [htk]⟩, trivial⟩⟩
  · have c2' : i = l.length := by rw [hll] at c2; simp at c2; omega
    subst c2'
    rw [List.take_length]
    refine wwe ?_
    refine AW_subL (l := [(2, .ptr 0 0), (3, .d (.sl 3 (encNs (l.map objI))))]) (h' := [.row [.d (.int .i64 0), .sl 1 [] .full, .sl 3 [] .full], .right 3 (encNs (l.map objI)).length]) ⟨.refl _, AV.le.dat, trivial⟩ (HLe.refl _) ?_
    refine ww ?_
    refine wwc hc ?_
    refine ww ?_
    exact wwr

def prevI (l : List Inf) (i : Nat) : Option Inf := if i = 0 then none else l[i - 1]?

set_option maxHeartbeats 8000000 in
set_option maxRecDepth 100000 in
theorem validI_spec (l : List Inf) (hl : l.length ≤ 1000000) : Spec Tryz.prog 77 [.d (.sl 5 (encFs l))] [] (fun r h' => r = .d (.int .i64 (validI l)) ∧ h' = []) := by
  have hll := encFs_length l
  unfold validI
  refine Spec_of_body hT Tryz.func77 rfl rfl rfl rfl ?_; intro E hE
  refine ww ?_
  refine AW_condL rfl (fun c1 => ?_) (fun c1 => ?_)
  · have c1' : l.length > 16 := by rw [hll] at c1; simp at c1; omega
    rw [if_pos c1']
    refine ww ?_
    exact wwr
  have c1' : ¬ l.length > 16 := by rw [hll] at c1; simp at c1; omega
  rw [if_neg c1']
  generalize hfin : infL none l = e
  refine ww ?_
  refine AW_loopC (ι := Nat) (fun i => [(0, .d (.sl 5 (encFs l))), (3, .d (.int .i64 (i : Int)))]) (fun _ => []) (fun i => i ≤ l.length ∧ infL (prevI l i) (l.drop i) = e) (fun i => l.length - i) 0 ⟨by omega, by simpa [prevI] using hfin⟩ ⟨.refl _, .refl _, trivial⟩ (HLe.refl _) ?_
  rintro i ⟨hi, hg⟩
  have hwr : IntKind.i64.wrap ((i : Int) + 1) = ((i + 1 : Nat) : Int) := by rw [wrap_id (by omega)]; simp
  refine ww ?_
  refine AW_condL rfl (fun c2 => ?_) (fun c2 => ?_)
  · have c2' : i < l.length := by rw [hll] at c2; simpa using c2
    have hel := encFs_at c2'
    have hdr : l.drop i = l[i] :: l.drop (i + 1) := List.drop_eq_getElem_cons c2'
    have hnx : prevI l (i + 1) = some l[i] := by unfold prevI; simp [c2']
    have hidx : ∃ q : Inf, ((i : Int) > 0 → 0 ≤ IntKind.i64.wrap ((i : Int) - 1) ∧ (encFs l)[(IntKind.i64.wrap ((i : Int) - 1)).toNat]? = some (encF q)) ∧ ((i : Int) > 0 → prevI l i = some q) ∧ (¬ (i : Int) > 0 → prevI l i = none) := by
      cases i with
      | zero => exact ⟨l[0], fun h => absurd h (by simp), fun h => absurd h (by simp), fun _ => rfl⟩
      | succ j =>
        have hj : IntKind.i64.wrap (((j + 1 : Nat) : Int) - 1) = (j : Int) := by rw [wrap_id (by omega)]; omega
        refine ⟨l[j], fun _ => ⟨by rw [hj]; omega, by rw [hj]; exact encFs_at (by omega)⟩, fun _ => ?_, fun h => absurd (by omega) h⟩
        unfold prevI; simp
    obtain ⟨q, hq1, hq2, hq3⟩ := hidx
    rw [hdr, infL_cons] at hg
    have hEl := ElementR_spec (l[i]).key
    generalize l[i] = x at hel hg hnx hEl
    obtain ⟨p, ver, par, key, kid⟩ := x
    obtain ⟨qp, qv, qa, qk, qi⟩ := q
    unfold encF at hel hq1
    unfold infE at hg
    simp only at hel hq1 hg hEl
    generalize elemG key = el at hEl hg
    refine ww ?_
    refine wwi hel ?_
    refine ww ?_
    refine AW_condL rfl (fun c3 => ?_) (fun c3 => ?_)
    · have c3' : p < 2 ∨ p > 6 := by simpa using c3
      rw [if_pos c3', if_pos (by simp)] at hg
      subst hg
      refine ww ?_
      exact wwr
    have c3' : ¬ (p < 2 ∨ p > 6) := by simp only [Bool.or_eq_false_iff, decide_eq_false_iff_not] at c3; omega
    rw [if_neg c3'] at hg
    refine wwe ?_
    refine AW_seq (AW_region ?_)
    refine wws ?_
    refine AW_seq_cut (ι := Unit) (fun _ => [(0, .d (.sl 5 (encFs l))), (3, .d (.int .i64 (i : Int))), (4, .ptr 0 0), (5, .d (.int .i64 (parI p))), (6, .d (.int .i64 0))]) (fun _ => [.row [.d (.int .i64 p), .d (.int .i64 ver), .d (.int .i64 par), .d (.int .i64 key), .d (.int .i64 kid)]]) (fun _ => True) ?_ ?_
    · refine ww ?_
      refine AW_condL rfl (fun k1 => ?_) (fun k1 => ?_)
      · have k1' : p = 2 ∨ p = 3 := by simpa using k1
        refine ww ?_
        exact ⟨(), trivial, ⟨.refl _, .refl _, .refl _, .int (by unfold parI; rw [if_pos k1']), .refl _, trivial⟩, HLe.refl _⟩
      · have k1' : ¬ (p = 2 ∨ p = 3) := by rintro (g | g) <;> simp [g] at k1
        refine ww ?_
        exact ⟨(), trivial, ⟨.refl _, .refl _, .refl _, .int (by unfold parI; rw [if_neg k1']), .refl _, trivial⟩, HLe.refl _⟩
    rintro _ _
    refine AW_seq_cut (ι := Unit) (fun _ => [(0, .d (.sl 5 (encFs l))), (3, .d (.int .i64 (i : Int))), (4, .ptr 0 0), (5, .d (.int .i64 (parI p))), (6, .d (.int .i64 (kidI p)))]) (fun _ => [.row [.d (.int .i64 p), .d (.int .i64 ver), .d (.int .i64 par), .d (.int .i64 key), .d (.int .i64 kid)]]) (fun _ => True) ?_ ?_
    · refine ww ?_
      refine AW_condL rfl (fun k1 => ?_) (fun k1 => ?_)
      · have k1' : p = 4 := by simpa using k1
        refine ww ?_
        exact ⟨(), trivial, ⟨.refl _, .refl _, .refl _, .refl _, .int (by unfold kidI; rw [if_pos k1']), trivial⟩, HLe.refl _⟩
      · have k1' : ¬ p = 4 := by simpa using k1
        refine ww ?_
        exact ⟨(), trivial, ⟨.refl _, .refl _, .refl _, .refl _, .int (by unfold kidI; rw [if_neg k1']), trivial⟩, HLe.refl _⟩
    rintro _ _
    generalize parI p = pp at hg ⊢
    generalize kidI p = kp at hg ⊢
    refine ww ?_
    refine AW_condL rfl (fun c4 => ?_) (fun c4 => ?_)
    · have c4' : ver < 1 ∨ ver > 255 ∨ par < 0 ∨ par > pp ∨ kid < 0 ∨ kid > kp := by simpa [or_assoc] using c4
      rw [if_pos c4', if_pos (by simp)] at hg
      subst hg
      refine ww ?_
      exact wwr
    have c4' : ¬ (ver < 1 ∨ ver > 255 ∨ par < 0 ∨ par > pp ∨ kid < 0 ∨ kid > kp) := by simp only [Bool.or_eq_false_iff, decide_eq_false_iff_not] at c4; omega
    rw [if_neg c4'] at hg
    refine ww ?_
    refine wwgc hEl ?_
    refine ww ?_
    refine AW_condL rfl (fun c5 => ?_) (fun c5 => ?_)
    · have c5' : (p = 4 ∧ el = false) ∨ (p ≠ 4 ∧ key ≠ 0) := by simpa using c5
      rw [if_pos c5', if_pos (by simp)] at hg
      subst hg
      refine ww ?_
      exact wwr
    have c5' : ¬ ((p = 4 ∧ el = false) ∨ (p ≠ 4 ∧ key ≠ 0)) := by
      rintro (⟨g1, g2⟩ | ⟨g1, g2⟩)
      · simp [g1, g2] at c5
      · simp [g1, g2] at c5
    rw [if_neg c5', if_neg (by simp)] at hg
    refine ww ?_
    refine AWd_gop (v := .iptr [.int .i64 qp, .int .i64 qv, .int .i64 qa, .int .i64 qk, .int .i64 qi]) rfl rfl rfl rfl (fun hg => ⟨(sg (C := True) hg).1, OpS_of_pure (indexAddr_ok hT rfl rfl rfl rfl (hq1 (by simp [gval] at hg; omega)).1 (hq1 (by simp [gval] at hg; omega)).2)⟩) ?_
    refine ww ?_
    refine AWd_gop (v := .iptr [.int .i64 qp, .int .i64 qv, .int .i64 qa, .int .i64 qk, .int .i64 qi]) rfl rfl rfl rfl (fun hg => ⟨(sg (C := True) hg).1, OpS_of_pure (indexAddr_ok hT rfl rfl rfl rfl (hq1 (by simp [gval] at hg; omega)).1 (hq1 (by simp [gval] at hg; omega)).2)⟩) ?_
    refine ww ?_
    refine AWd_gop (v := .iptr [.int .i64 qp, .int .i64 qv, .int .i64 qa, .int .i64 qk, .int .i64 qi]) rfl rfl rfl rfl (fun hg => ⟨(sg (C := True) hg).1, OpS_of_pure (indexAddr_ok hT rfl rfl rfl rfl (hq1 (by simp [gval] at hg; omega)).1 (hq1 (by simp [gval] at hg; omega)).2)⟩) ?_
    refine ww ?_
    refine AW_condL rfl (fun c6 => ?_) (fun c6 => ?_)
    · have c6' : (i : Int) > 0 ∧ (p < qp ∨ (p = qp ∧ kid ≤ qi)) := by
        simp only [Bool.and_eq_true, Bool.or_eq_true, decide_eq_true_eq, beq_iff_eq] at c6
        exact c6
      rw [hq2 c6'.1] at hg
      simp only at hg
      rw [if_pos (by unfold infO; exact decide_eq_true c6'.2)] at hg
      subst hg
      refine ww ?_
      exact wwr
    · have hg' : infL (some ⟨p, ver, par, key, kid⟩) (l.drop (i + 1)) = e := by
        by_cases hi0 : (i : Int) > 0
        · rw [hq2 hi0] at hg
          simp only at hg
          rw [if_neg (by
            unfold infO
            intro hh
            have hh := of_decide_eq_true hh
            simp only at hh
            have : (decide ((i : Int) > 0) && (decide (p < qp) || (p == qp && decide (kid ≤ qi)))) = true := by
              simp only [Bool.and_eq_true, Bool.or_eq_true, decide_eq_true_eq, beq_iff_eq]
              exact ⟨hi0, hh⟩
            exact absurd (c6.symm.trans this) (by simp))] at hg
          exact hg
        · rw [hq3 hi0] at hg
          simpa using hg
      refine ww ?_
      exact ⟨i + 1, [.row [.d (.int .i64 p), .d (.int .i64 ver), .d (.int .i64 par), .d (.int .i64 key), .d (.int .i64 kid)]], ⟨by omega, by rw [hnx]; exact hg'⟩, by omega, ⟨.refl _, .int hwr, trivial⟩, HLe.refl _, hE, rfl, rfl⟩
  · have c2' : i = l.length := by rw [hll] at c2; simp at c2; omega
    subst c2'
    rw [List.drop_length, infL_nil] at hg
    subst hg
    refine ww ?_
    exact wwr
end Tdoc
