/- The reference's files of templates, details and infos. -/
import Derived.Test.YtnjanpmgonoeeaaGreatDoorK3
import Derived.Test.YtnjanpmgonoeeaaGreatDoorK6
import Derived.Test.YtnjanpmgonoeeaaGreatDoorK4
import Derived.Test.YtnjanpmgonoeeaaGreatDoorK2
import Derived.Test.YtnjanpmgonoeeaaGreatDoorK5
set_option linter.unusedVariables false
set_option linter.unusedSimpArgs false
namespace Tdoc
open Go Go.Proofs

set_option maxHeartbeats 8000000 in
set_option maxRecDepth 100000 in
theorem fitsT_spec (n : Int) (hn : -9223372036854775807 ≤ n ∧ n ≤ 9223372036854775807) (l : List Tpl) (hl : l.length ≤ 1000000) : Spec Tryz.prog 72 [.d (.int .i64 n), .d (.sl 7 (encTs l))] [] (fun r h' => r = .d (.bool (fitsT n l)) ∧ h' = []) := by
  have hll := encTs_length l
  have hwn : IntKind.i64.wrap (n - 1) = n - 1 := wrap_id (by omega)
  unfold fitsT
  generalize hfin : (l.all fun t => decide (t.kind = n - 1)) = fin
  refine Spec_of_body hT Tryz.func72 rfl rfl rfl rfl ?_; intro E hE
  refine ww ?_
  refine AW_loopL (ι := Nat) (fun i => [(0, .d (.int .i64 n)), (1, .d (.sl 7 (encTs l))), (5, .d (.int .i64 (i : Int)))]) (fun _ => []) (fun i => i ≤ l.length ∧ ((l.drop i).all fun t => decide (t.kind = n - 1)) = fin) (fun i => l.length - i) 0 ⟨by omega, by simpa using hfin⟩ ⟨.refl _, .refl _, .refl _, trivial⟩ (HLe.refl _) ?_
  rintro i ⟨hi, hg⟩
  have hwr : IntKind.i64.wrap ((i : Int) + 1) = ((i + 1 : Nat) : Int) := by rw [wrap_id (by omega)]; simp
  refine ww ?_
  refine AW_condL rfl (fun c2 => ?_) (fun c2 => ?_)
  · have c2' : i < l.length := by rw [hll] at c2; simpa using c2
    have hel := encTs_at c2'
    have hdr : l.drop i = l[i] :: l.drop (i + 1) := List.drop_eq_getElem_cons c2'
    rw [hdr, List.all_cons] at hg
    generalize l[i] = t at hel hg
    refine ww ?_
    refine wwi hel ?_
    refine ww ?_
    refine AW_condL rfl (fun c3 => ?_) (fun c3 => ?_)
    · have c3' : ¬ t.kind = n - 1 := by rw [hwn] at c3; simpa using c3
      rw [decide_eq_false c3', Bool.false_and] at hg
      subst hg
      refine ww ?_
      exact wwr
    · have c3' : t.kind = n - 1 := by rw [hwn] at c3; simpa using c3
      rw [decide_eq_true c3', Bool.true_and] at hg
      refine ww ?_
      exact ⟨i + 1, ⟨by omega, hg⟩, by omega, ⟨.refl _, .refl _, .int hwr, trivial⟩, HLe.refl _⟩
  · have c2' : i = l.length := by rw [hll] at c2; simp at c2; omega
    subst c2'
    rw [List.drop_length, List.all_nil] at hg
    subst hg
    refine ww ?_
    exact wwr

set_option maxHeartbeats 8000000 in
set_option maxRecDepth 100000 in
theorem bioF_spec (n : Int) (hn : -9223372036854775807 ≤ n ∧ n ≤ 9223372036854775807) (l : List Tpl) (hl : l.length ≤ 1000000) : Spec Tryz.prog 29 [.d (.int .i64 n), .d (.sl 7 (encTs l))] [] (fun r h' => r = .tup [.d (.sl 1 (encB (bioF n l).1)), .d (.int .i64 (bioF n l).2)] ∧ h' = []) := by
  have he := encTR_spec l hl
  have hft := fitsT_spec n hn l hl
  obtain ⟨f1, f2, f3⟩ := encTR_fit l
  have hw := WrapR_spec n (by omega) (encTR l).1 (by omega) f1 (by omega)
  unfold bioF
  generalize encTR l = q at he hw
  obtain ⟨k, e⟩ := q
  simp only at he hw ⊢
  generalize fitsT n l = ft at hft
  generalize wrapG n k = w at hw
  obtain ⟨w, we⟩ := w
  simp only at hw ⊢
  generalize encNs k = ks at he hw
  generalize encTs l = ts at he hft
  refine Spec_of_body hT Tryz.func29 rfl rfl rfl rfl ?_; intro E hE
  refine ww ?_
  refine AW_condL rfl (fun c1 => ?_) (fun c1 => ?_)
  · have c1' : n < 2 ∨ n > 4 := by simpa using c1
    rw [if_pos c1']
    refine ww ?_
    exact wwr
  have c1' : ¬ (n < 2 ∨ n > 4) := by simp only [Bool.or_eq_false_iff, decide_eq_false_iff_not] at c1; omega
  rw [if_neg c1']
  refine ww ?_
  refine wwc he ?_
  refine ww ?_
  refine AW_condL rfl (fun c2 => ?_) (fun c2 => ?_)
  · have c2' : e ≠ 0 := by simpa using c2
    rw [if_pos c2']
    refine ww ?_
    exact wwr
  have c2' : ¬ e ≠ 0 := by simpa using c2
  rw [if_neg c2']
  refine ww ?_
  refine wwc hft ?_
  refine ww ?_
  refine AW_condL rfl (fun c3 => ?_) (fun c3 => ?_)
  · have c3' : ft = false := by simpa using c3
    rw [if_pos c3']
    refine ww ?_
    exact wwr
  have c3' : ¬ ft = false := by simpa using c3
  rw [if_neg c3']
  refine ww ?_
  refine wwc hw ?_
  refine ww ?_
  exact wwr

set_option maxHeartbeats 8000000 in
set_option maxRecDepth 100000 in
theorem belongs_spec (n t : Int) : Spec Tryz.prog 75 [.d (.int .i64 n), .d (.int .i64 t)] [] (fun r h' => r = .d (.bool (belongsF n t)) ∧ h' = []) := by
  unfold belongsF
  refine Spec_of_body hT Tryz.func75 rfl rfl rfl rfl ?_; intro E hE
  refine ww ?_
  refine AW_condL rfl (fun c1 => ?_) (fun c1 => ?_)
  · rw [if_pos (show n = 11 by simpa using c1)]
    refine ww ?_
    refine rq ⟨rfl, rfl⟩ rfl (.bool ?_)
    by_cases g1 : t = 24334 <;> by_cases g2 : 24336 ≤ t <;> by_cases g3 : t ≤ 24341 <;> by_cases g4 : t = 24386 <;> simp [g1, g2, g3, g4] <;> omega
  · rw [if_neg (show ¬ n = 11 by simpa using c1)]
    refine ww ?_
    refine rq ⟨rfl, rfl⟩ rfl (.bool ?_)
    by_cases g1 : t = 24345 <;> by_cases g2 : t = 24358 <;> by_cases g3 : t = 24347 <;> by_cases g4 : t = 24405 <;> simp [g1, g2, g3, g4]

theorem detL_ok (n : Int) : ∀ (l seen : List Det), detL n seen l = 0 → ∀ x ∈ l, belongsF n x.tag = true ∧ x.text.length ≤ 99
  | [], _, _, x, hx => by cases hx
  | a :: l, seen, h, x, hx => by
    rw [detL] at h
    split at h
    · exact absurd h (by omega)
    split at h
    · exact absurd h (by omega)
    split at h
    · exact absurd h (by omega)
    rename_i h1 h2 h3
    rcases List.mem_cons.1 hx with rfl | hx
    · exact ⟨by simpa using h1, by omega⟩
    · exact detL_ok n l _ h x hx
theorem belongs_range {n t : Int} (h : belongsF n t = true) : 24334 ≤ t ∧ t ≤ 24405 := by
  unfold belongsF at h
  split at h
  · rw [decide_eq_true_eq] at h; omega
  · rw [decide_eq_true_eq] at h; omega
theorem kidsD_fit : ∀ (l : List Det), (∀ x ∈ l, (24334 ≤ x.tag ∧ x.tag ≤ 24405) ∧ x.text.length ≤ 99) → fitL (kidsD l) ∧ sizeL (kidsD l) = l.length ∧ (kidsD l).length = l.length
  | [], _ => ⟨trivial, rfl, rfl⟩
  | x :: l, h => by
    obtain ⟨h1, h2, h3⟩ := kidsD_fit l fun y hy => h y (by simp [hy])
    obtain ⟨g1, g2⟩ := h x (by simp)
    refine ⟨⟨⟨by omega, by omega, by simp, trivial⟩, h1⟩, ?_, by simp [kidsD]⟩
    show sizeL (.mk x.tag x.text [] :: kidsD l) = _
    rw [sizeL, h2, sizeN, sizeL, List.length_cons]; omega

set_option maxHeartbeats 8000000 in
set_option maxRecDepth 100000 in
theorem detF_spec (n : Int) (hn : -9223372036854775807 ≤ n ∧ n ≤ 9223372036854775807) (l : List Det) (hl : l.length ≤ 1000000) : Spec Tryz.prog 31 [.d (.int .i64 n), .d (.sl 2 (encDs l))] [] (fun r h' => r = .tup [.d (.sl 1 (encB (detF n l).1)), .d (.int .i64 (detF n l).2)] ∧ h' = []) := by
  have hll := encDs_length l
  unfold detF
  refine Spec_of_body hT Tryz.func31 rfl rfl rfl rfl ?_; intro E hE
  refine ww ?_
  refine AW_condL rfl (fun c1 => ?_) (fun c1 => ?_)
  · have c1' : n ≠ 11 ∧ n ≠ 12 := by simpa using c1
    rw [if_pos c1']
    refine ww ?_
    exact wwr
  have c1' : ¬ (n ≠ 11 ∧ n ≠ 12) := by rintro ⟨g1, g2⟩; simp [g1, g2] at c1
  rw [if_neg c1']
  refine ww ?_
  refine AW_condL rfl (fun c2 => ?_) (fun c2 => ?_)
  · have c2' : l.length > 16 := by rw [hll] at c2; simp at c2; omega
    rw [if_pos c2']
    refine ww ?_
    exact wwr
  have c2' : ¬ l.length > 16 := by rw [hll] at c2; simp at c2; omega
  rw [if_neg c2']
  generalize hfin : detL n [] l = e
  refine wwe ?_
  refine AW_seq (AW_region ?_)
  refine wws ?_
  refine AW_seq (AW_region ?_)
  refine wws ?_
  refine AW_room ?_
  refine AW_room ?_
  refine AW_acquireAt 6 1 0 (es := []) (.inr ⟨rfl, rfl⟩) rfl ?_
  refine AW_acquireAt 7 3 1 (es := []) (.inr ⟨rfl, rfl⟩) rfl ?_
  refine ww ?_
  refine AW_loopL (ι := Nat) (fun i => [(0, .d (.int .i64 n)), (1, .d (.sl 2 (encDs l))), (6, .sl 1 (encB (listD (l.take i))) (.right 0)), (7, .sl 3 (encNs (kidsD (l.take i))) (.right 1)), (8, .d (.int .i64 (i : Int)))])
    (fun i => [.right 1 (encB (listD (l.take i))).length, .right 3 (encNs (kidsD (l.take i))).length]) (fun i => i ≤ l.length ∧ detL n (l.take i) (l.drop i) = e) (fun i => l.length - i) 0 ⟨by omega, by simpa using hfin⟩ ⟨.refl _, .refl _, .refl _, .refl _, .refl _, trivial⟩ (HLe.refl _) ?_
  rintro i ⟨hi, hg⟩
  have hwr : IntKind.i64.wrap ((i : Int) + 1) = ((i + 1 : Nat) : Int) := by rw [wrap_id (by omega)]; simp
  have hl1 : (encB (listD (l.take i))).length ≤ 32 := by rw [encB_length, listD_length, List.length_take]; omega
  have hl2 : (encNs (kidsD (l.take i))).length ≤ 16 := by rw [encNs_length]; simp [kidsD]; omega
  refine ww ?_
  refine AW_condL rfl (fun c3 => ?_) (fun c3 => ?_)
  · have c3' : i < l.length := by rw [hll] at c3; simpa using c3
    have hel := encDs_at c3'
    have hdr : l.drop i = l[i] :: l.drop (i + 1) := List.drop_eq_getElem_cons c3'
    have htk1 : l.take (i + 1) = l.take i ++ [l[i]] := List.take_succ_eq_append_getElem c3'
    have ht1 : encB (listD (l.take (i + 1))) = encB (listD (l.take i)) ++ [[.int .u8 (IntKind.u8.wrap (Int.fdiv (l[i]).tag (2 ^ (min (8 : Int).toNat IntKind.i64.bits))))], [.int .u8 (IntKind.u8.wrap (l[i]).tag)]] := by rw [htk1, listD_append, encB_append, bOf_hi, bOf_wrap]; rfl
    have ht2 : encNs (kidsD (l.take (i + 1))) = encNs (kidsD (l.take i)) ++ [encN (.mk (l[i]).tag (l[i]).text [])] := by rw [htk1, kidsD_append, encNs_append]; rfl
    have hbe := belongs_spec n (l[i]).tag
    rw [hdr, detL, ← htk1] at hg
    have hseen : ∀ k, k < i → l[k]? = (l.take i)[k]? := fun k hk => by rw [List.getElem?_take, if_pos hk]
    generalize hx : l[i] = x at hel hg ht1 ht2 hbe
    obtain ⟨tg, tx⟩ := x
    unfold encD at hel
    simp only at hel hg ht1 ht2 hbe
    generalize belongsF n tg = bl at hbe hg
    refine ww ?_
    refine wwi hel ?_
    refine ww ?_
    refine wwc hbe ?_
    refine ww ?_
    refine AW_condL rfl (fun c4 => ?_) (fun c4 => ?_)
    · have c4' : bl = false := by simpa using c4
      rw [if_pos c4'] at hg
      subst hg
      rw [if_pos (by simp)]
      refine ww ?_
      exact wwr
    have c4' : ¬ bl = false := by simpa using c4
    rw [if_neg c4'] at hg
    refine ww ?_
    generalize hsn : ((l.take i).any fun y => decide (y.tag = tg)) = sn at hg
    generalize encB (listD (l.take i)) = lb at hl1 ht1 ⊢
    generalize encNs (kidsD (l.take i)) = kb at hl2 ht2 ⊢
    refine AW_loopL (ι := Nat) (fun k => [(0, .d (.int .i64 n)), (1, .d (.sl 2 (encDs l))), (6, .sl 1 lb (.right 0)), (7, .sl 3 kb (.right 1)), (8, .d (.int .i64 (i : Int))), (9, .d (.int .i64 tg)), (10, .d (.int .i64 (k : Int)))])
      (fun _ => [.right 1 lb.length, .right 3 kb.length]) (fun k => k ≤ i ∧ (((l.take i).drop k).any fun y => decide (y.tag = tg)) = sn) (fun k => i - k) 0 ⟨by omega, by simpa using hsn⟩ ⟨.refl _, .refl _, .refl _, .refl _, .refl _, .refl _, .refl _, trivial⟩ (HLe.refl _) ?_
    rintro k ⟨hk, hkg⟩
    have hwk : IntKind.i64.wrap ((k : Int) + 1) = ((k + 1 : Nat) : Int) := by rw [wrap_id (by omega)]; simp
    refine ww ?_
    refine AW_condL rfl (fun c5 => ?_) (fun c5 => ?_)
    · have c5' : k < i := by simpa using c5
      have hel2 := encDs_at (l := l) (i := k) (by omega)
      have hdr2 : (l.take i).drop k = l[k] :: (l.take i).drop (k + 1) := by
        rw [List.drop_eq_getElem_cons (by rw [List.length_take]; omega), List.getElem_take]
      rw [hdr2, List.any_cons] at hkg
      generalize l[k] = y at hel2 hkg
      obtain ⟨yt, yx⟩ := y
      unfold encD at hel2
      simp only at hel2 hkg
      refine ww ?_
      refine wwi hel2 ?_
      refine ww ?_
      refine AW_condL rfl (fun c6 => ?_) (fun c6 => ?_)
      · have c6' : yt = tg := by simpa using c6
        rw [decide_eq_true c6', Bool.true_or] at hkg
        subst hkg
        rw [if_pos rfl] at hg
        subst hg
        rw [if_pos (by simp)]
        refine ww ?_
        exact wwr
      · have c6' : ¬ yt = tg := by simpa using c6
        rw [decide_eq_false c6', Bool.false_or] at hkg
        refine ww ?_
        exact ⟨k + 1, ⟨by omega, hkg⟩, by omega, ⟨.refl _, .refl _, .refl _, .refl _, .refl _, .refl _, .int hwk, trivial⟩, HLe.refl _⟩
    · have c5' : k = i := by simp at c5; omega
      subst c5'
      have hz : ((l.take k).drop k) = [] := List.drop_eq_nil_of_le (by rw [List.length_take]; omega)
      rw [hz, List.any_nil] at hkg
      subst hkg
      rw [if_neg (by simp)] at hg
      refine ww ?_
      refine wwi hel ?_
      refine ww ?_
      refine wwgi hel ?_
      refine ww ?_
      refine AW_condL rfl (fun c7 => ?_) (fun c7 => ?_)
      · have c7' : tx.length < 1 ∨ tx.length > 99 := by simp only [Bool.or_eq_true, decide_eq_true_eq] at c7; omega
        rw [if_pos c7'] at hg
        subst hg
        rw [if_pos (by simp)]
        refine ww ?_
        exact wwr
      have c7' : ¬ (tx.length < 1 ∨ tx.length > 99) := by simp only [Bool.or_eq_false_iff, decide_eq_false_iff_not] at c7; omega
      rw [if_neg c7'] at hg
      have hp := PrimB_spec tg tx (by omega)
      refine ww ?_
      refine AWk_op (append_rightL (i := 0) hT rfl rfl rfl rfl rfl rfl (by show (lb.length + 2) * (1 + 1) ≤ _; first | omega | (simp only [encB_length, encNs_length, List.length_append, List.length_cons, List.length_nil]; omega))) rfl ?_
      refine ww ?_
      refine wwi hel ?_
      refine ww ?_
      refine AWk_op (strBytes_ok (s := tx) hT rfl rfl rfl) rfl ?_
      refine ww ?_
      refine wwc hp ?_
      refine ww ?_
      refine AWk_op (append_rightL (i := 1) hT rfl rfl rfl rfl rfl rfl (by show (kb.length + 1) * (56 + 1) ≤ _; first | omega | (simp only [encB_length, encNs_length, List.length_append, List.length_cons, List.length_nil]; omega))) rfl ?_
      refine ww ?_
      exact ⟨k + 1, ⟨by omega, hg⟩, by omega, ⟨.refl _, .refl _, AV.le.eq (by rw [ht1]; rfl), AV.le.eq (by rw [ht2]; rfl), .int hwr, trivial⟩, ⟨⟨rfl, by rw [ht1]⟩, ⟨rfl, by rw [ht2]; rfl⟩, trivial⟩⟩
  · have c3' : i = l.length := by rw [hll] at c3; simp at c3; omega
    subst c3'
    rw [List.drop_length, detL] at hg
    subst hg
    rw [if_neg (by simp), List.take_length]
    have hok := detL_ok n l [] hfin
    have hk := kidsD_fit l fun x hx => ⟨belongs_range (hok x hx).1, (hok x hx).2⟩
    have hld := listD_length l
    have hp := PrimB_spec 92 (listD l) (by omega)
    have hw := WrapR_spec n (by omega) (.mk 92 (listD l) [] :: kidsD l) (by rw [List.length_cons, hk.2.2]; omega) ⟨⟨by omega, by omega, by simp, trivial⟩, hk.1⟩ (by rw [sizeL, sizeN, hk.2.1]; simp [sizeL]; omega)
    generalize wrapG n (.mk 92 (listD l) [] :: kidsD l) = w at hw
    obtain ⟨w, we⟩ := w
    simp only at hw ⊢
    refine wwe ?_
    refine AW_subL (l := [(0, .d (.int .i64 n)), (6, .d (.sl 1 (encB (listD l)))), (7, .d (.sl 3 (encNs (kidsD l))))]) (h' := [.right 1 (encB (listD l)).length, .right 3 (encNs (kidsD l)).length]) ⟨.refl _, AV.le.dat, AV.le.dat, trivial⟩ (HLe.refl _) ?_
    have hkn : (encNs (kidsD l)).length ≤ 16 := by rw [encNs_length, hk.2.2]; omega
    refine ww ?_
    refine wwc hp ?_
    refine ww ?_
    refine AWk_op (append_full (es := encNs [.mk 92 (listD l) []]) (es2 := encNs (kidsD l)) hT rfl rfl rfl (.inl rfl) rfl (by show (1 + _) * (56 + 1) ≤ _; omega)) rfl ?_
    refine ww ?_
    refine wwc hw ?_
    refine ww ?_
    exact wwr

set_option maxHeartbeats 8000000 in
set_option maxRecDepth 100000 in
theorem infosF_spec (l : List Inf) (hl : l.length ≤ 1000000) (hk : ∀ x ∈ l, KeyOk x) : Spec Tryz.prog 33 [.d (.sl 5 (encFs l))] [] (fun r h' => r = .tup [.d (.sl 1 (encB (infosF l).1)), .d (.int .i64 (infosF l).2)] ∧ h' = []) := by
  have hv := validI_spec l hl
  have hs := setI_spec l hl hk
  have hs' : Spec Tryz.prog 78 [.d (.sl 5 (encFs l))] [] (fun r h' => r = .agg [.d (.int .i64 49), .d (.sl 1 []), .d (.sl 3 (encNs (l.map objI)))] ∧ h' = []) := hs
  unfold infosF
  by_cases h0 : validI l = 0
  · rw [if_neg (by simp [h0])]
    have h16 : l.length ≤ 16 := by
      unfold validI at h0
      split at h0
      · exact absurd h0 (by omega)
      · omega
    have hf := setI_fit h16
    have hw := WrapR_spec 14 (by omega) [setI l] (by simp) hf.1 (by omega)
    rw [h0] at hv
    unfold setI at hw ⊢
    generalize wrapG 14 [.mk 49 [] (l.map objI)] = w at hw
    obtain ⟨w, we⟩ := w
    simp only at hw ⊢
    generalize encFs l = es at hv hs'
    refine Spec_of_body hT Tryz.func33 rfl rfl rfl rfl ?_; intro E hE
    refine ww ?_
    refine wwc hv ?_
    refine ww ?_
    refine AW_condL rfl (fun c1 => ?_) (fun c1 => ?_)
    · exact absurd c1 (by simp)
    refine ww ?_
    refine wwc hs' ?_
    refine ww ?_
    refine wwc hw ?_
    refine ww ?_
    exact wwr
  · rw [if_pos h0]
    generalize validI l = e at hv h0
    generalize encFs l = es at hv
    refine Spec_of_body hT Tryz.func33 rfl rfl rfl rfl ?_; intro E hE
    refine ww ?_
    refine wwc hv ?_
    refine ww ?_
    refine AW_condL rfl (fun c1 => ?_) (fun c1 => ?_)
    · refine ww ?_
      exact wwr
    · exact absurd (by simpa using c1) h0
end Tdoc
/- Dice: names, signs, days. -/
set_option linter.unusedVariables false
set_option linter.unusedSimpArgs false
namespace Tdoc
open Go Go.Proofs

def wordT : List (List UInt8) := [[65], [69, 82, 73, 75, 83, 83, 79, 78], [77, 65, 82, 73, 65], [68, 69], [76, 79, 83], [79, 75], [86, 65, 78, 68, 69, 82, 86, 65, 76, 75], [90, 90]]
theorem wordT_ok : ∀ w, w ∈ wordT → w.all isUp = true ∧ w.length ≤ 10 ∧ w ≠ [] := by decide
def wordRow : List AV := wordT.map fun w => .d (.str w)
theorem wordRow_at {x : Int} (h1 : 0 ≤ x) (h2 : x < 8) : ∃ w, wordRow[0 + x.toNat * 1]? = some (.d (.str w)) ∧ w.all isUp = true ∧ w.length ≤ 10 ∧ w ≠ [] := by
  have hl : x.toNat < wordT.length := by show x.toNat < 8; omega
  exact ⟨wordT[x.toNat], by simp [wordRow, hl], wordT_ok _ (List.getElem_mem hl)⟩

def DNameP (L : List Int) (w : Nat) (x : List UInt8 × Nat) : Prop := NameM w x.1 ∧ x.2 ≤ L.length
theorem NameM.mono {a b : Nat} {s : List UInt8} (h : NameM a s) (hab : a ≤ b) : NameM b s := ⟨h.1, by have := h.2; omega⟩

set_option maxHeartbeats 8000000 in
set_option maxRecDepth 100000 in
theorem DName_spec (L : List Int) (hL : L.length ≤ 1000000) (a : Nat) (ha : a ≤ L.length) (w : Nat) (hw : w ≤ 100) :
    Spec Tryz.prog 60 [.ptr 0 0, .d (.int .i64 (w : Int))] [.row (diceR L a)] (fun r h' => ∃ x, DNameP L w x ∧ r = .d (.str x.1) ∧ h' = [.row (diceR L x.2)]) := by
  have hN := fun a ha n h1 hn => Next_spec L hL a ha n h1 hn
  have hw0 : IntKind.i64.wrap ((w : Int) + 1) = ((w + 1 : Nat) : Int) := by rw [wrap_id (by omega)]; omega
  refine Spec_of_body hT Tryz.func60 rfl rfl rfl rfl ?_; intro E hE
  refine ww ?_
  refine AWk_opX (callX rfl rfl (hN a ha ((w + 1 : Nat) : Int) (by omega) (by omega)) [0] (by decide) rfl (by rw [← hw0]; rfl) rfl rfl (fun _ => rfl) (fun _ => rfl) (fun _ => rfl)) rfl ?_
  rintro ⟨m, a1⟩ ⟨q1, q2, q3⟩
  simp only at q1 q2 q3 ⊢
  obtain ⟨m, rfl⟩ : ∃ m' : Nat, m = (m' : Int) := ⟨m.toNat, by omega⟩
  refine ww ?_
  refine AW_loopL (ι := Nat × Nat × List UInt8) (fun x => [(0, .ptr 0 0), (5, .ptr 1 0), (6, .d (.str x.2.2)), (7, .d (.int .i64 (x.2.1 : Int)))]) (fun x => [.row (diceR L x.1), .row wordRow])
    (fun x => x.1 ≤ L.length ∧ ∃ k, NameM k x.2.2 ∧ k + x.2.1 ≤ w) (fun x => x.2.1) (a1, m, []) ⟨q3, 0, ⟨rfl, by simp⟩, by simp only; omega⟩ ⟨.refl _, .refl _, .refl _, .refl _, trivial⟩ (HLe.refl _) ?_
  rintro ⟨b, m, s⟩ ⟨h1, k, hk, hkm⟩
  simp only at h1 hk hkm ⊢
  have hsl := hk.2
  refine ww ?_
  refine AW_condL rfl (fun h3 => ?_) (fun h3 => ?_)
  · obtain ⟨m, rfl⟩ : ∃ m', m = m' + 1 := ⟨m - 1, by simp at h3; omega⟩
    have hwm : IntKind.i64.wrap (((m + 1 : Nat) : Int) - 1) = (m : Int) := by rw [wrap_id (by omega)]; omega
    refine ww ?_
    refine AW_condL rfl (fun h4 => ?_) (fun h4 => ?_)
    · have h4' : s ≠ [] := by simpa using h4
      refine ww ?_
      refine AWk_opX (callX rfl rfl (hN b h1 8 (by omega) (by omega)) [0] (by decide) rfl rfl rfl rfl (fun _ => rfl) (fun _ => rfl) (fun _ => rfl)) rfl ?_
      rintro ⟨x, b2⟩ ⟨r1, r2, r3⟩
      simp only at r1 r2 r3 ⊢
      obtain ⟨wd, e1, e2, e3, e4⟩ := wordRow_at r1 r2
      refine ww ?_
      refine AWk_op (OpS_of_pure (arrPtr_ok hT rfl rfl rfl rfl ⟨r1, r2⟩)) rfl ?_
      refine AWk_op (load1_ok hT rfl rfl rfl rfl rfl e1) rfl ?_
      refine ww ?_
      refine ⟨(b2, m, s ++ 32 :: wd), ⟨r3, k + 1, hk.next h4' e2 e3 e4, by simp only; omega⟩, by simp only; omega, ⟨.refl _, .refl _, .str ?_, .int hwm, trivial⟩, HLe.refl _⟩
      simp
    · have h4' : s = [] := by simpa using h4
      subst h4'
      refine ww ?_
      refine AWk_opX (callX rfl rfl (hN b h1 8 (by omega) (by omega)) [0] (by decide) rfl rfl rfl rfl (fun _ => rfl) (fun _ => rfl) (fun _ => rfl)) rfl ?_
      rintro ⟨x, b2⟩ ⟨r1, r2, r3⟩
      simp only at r1 r2 r3 ⊢
      obtain ⟨wd, e1, e2, e3, e4⟩ := wordRow_at r1 r2
      refine ww ?_
      refine AWk_op (OpS_of_pure (arrPtr_ok hT rfl rfl rfl rfl ⟨r1, r2⟩)) rfl ?_
      refine AWk_op (load1_ok hT rfl rfl rfl rfl rfl e1) rfl ?_
      refine ww ?_
      exact ⟨(b2, m, wd), ⟨r3, k + 1, .first e2 e3, by simp only; omega⟩, by simp only; omega, ⟨.refl _, .refl _, .refl _, .int hwm, trivial⟩, HLe.refl _⟩
  · refine ww ?_
    exact ret_q ⟨(s, b), ⟨hk.mono (by omega), h1⟩, rfl, rfl⟩ rfl (.refl _) rfl rfl rfl rfl

def DSignP (L : List Int) (n : Nat) (x : List UInt8 × Nat) : Prop := SignM n x.1 ∧ x.2 ≤ L.length

set_option maxHeartbeats 8000000 in
set_option maxRecDepth 100000 in
theorem DSigns_spec (L : List Int) (hL : L.length ≤ 1000000) (a : Nat) (ha : a ≤ L.length) (n : Nat) (h1 : 1 ≤ n) (hn : n ≤ 100) :
    Spec Tryz.prog 61 [.ptr 0 0, .d (.int .i64 (n : Int))] [.row (diceR L a)] (fun r h' => ∃ x, DSignP L n x ∧ r = .d (.str x.1) ∧ h' = [.row (diceR L x.2)]) := by
  have hN := fun a ha n h1 hn => Next_spec L hL a ha n h1 hn
  refine Spec_of_body hT Tryz.func61 rfl rfl rfl rfl ?_; intro E hE
  refine ww ?_
  refine AWk_opX (callX rfl rfl (hN a ha (n : Int) (by omega) (by omega)) [0] (by decide) rfl rfl rfl rfl (fun _ => rfl) (fun _ => rfl) (fun _ => rfl)) rfl ?_
  rintro ⟨m, a1⟩ ⟨q1, q2, q3⟩
  simp only at q1 q2 q3 ⊢
  obtain ⟨m, rfl⟩ : ∃ m' : Nat, m = (m' : Int) := ⟨m.toNat, by omega⟩
  have hw0 : IntKind.i64.wrap (1 + (m : Int)) = ((m + 1 : Nat) : Int) := by rw [wrap_id (by omega)]; omega
  refine ww ?_
  refine AW_room (AW_acquireAt 5 1 1 (es := []) (.inr ⟨rfl, rfl⟩) rfl ?_)
  refine AW_loopL (ι := Nat × Nat × List UInt8) (fun x => [(0, .ptr 0 0), (5, .sl 1 (encB x.2.2) (.right 1)), (6, .d (.int .i64 (x.2.1 : Int)))]) (fun x => [.row (diceR L x.1), .right 1 (encB x.2.2).length])
    (fun x => x.1 ≤ L.length ∧ plainF x.2.2 = true ∧ x.2.2.length + x.2.1 ≤ n ∧ 1 ≤ x.2.2.length + x.2.1) (fun x => x.2.1) (a1, m + 1, []) ⟨q3, rfl, by simp; omega, by simp⟩ ⟨.refl _, .refl _, .int hw0, trivial⟩ (HLe.refl _) ?_
  rintro ⟨b, m, out⟩ ⟨h1, h2, h3, h4⟩
  simp only at h1 h2 h3 h4 ⊢
  have hol := encB_length out
  refine ww ?_
  refine AW_condL rfl (fun h5 => ?_) (fun h5 => ?_)
  · obtain ⟨m, rfl⟩ : ∃ m', m = m' + 1 := ⟨m - 1, by simp at h5; omega⟩
    refine ww ?_
    refine AWk_opX (callX rfl rfl (hN b h1 36 (by omega) (by omega)) [0] (by decide) rfl rfl rfl rfl (fun _ => rfl) (fun _ => rfl) (fun _ => rfl)) rfl ?_
    rintro ⟨x, b2⟩ ⟨r1, r2, r3⟩
    simp only at r1 r2 r3 ⊢
    have hxl : x.toNat < signC.length := by show x.toNat < 36; omega
    have hsx : strAt signC x = bI signC[x.toNat] := by
      have := strAt_bI hxl
      rw [Int.toNat_of_nonneg r1] at this
      exact this
    have hmem : plainF [signC[x.toNat]] = true := by
      have := signC_plain
      unfold plainF at this ⊢
      rw [List.all_eq_true] at this
      simpa using this _ (List.getElem_mem hxl)
    have hsc : strAt (ByteArray.mk #[48, 49, 50, 51, 52, 53, 54, 55, 56, 57, 65, 66, 67, 68, 69, 70, 71, 72, 73, 74, 75, 76, 77, 78, 79, 80, 81, 82, 83, 84, 85, 86, 87, 88, 89, 90]).data.toList x = bI signC[x.toNat] := hsx
    generalize signC[x.toNat] = c at hsc hmem
    have hlen : 0 ≤ x ∧ x < ((ByteArray.mk #[48, 49, 50, 51, 52, 53, 54, 55, 56, 57, 65, 66, 67, 68, 69, 70, 71, 72, 73, 74, 75, 76, 77, 78, 79, 80, 81, 82, 83, 84, 85, 86, 87, 88, 89, 90]).data.toList.length : Int) := ⟨r1, r2⟩
    refine ww ?_
    refine AWk_op (append_rightL (i := 1) hT rfl rfl rfl rfl rfl rfl (by show ((encB out).length + 1) * (1 + 1) ≤ _; first | omega | (simp only [encB_length, encNs_length, List.length_append, List.length_cons, List.length_nil]; omega))) rfl ?_
    have hwm : IntKind.i64.wrap (((m + 1 : Nat) : Int) - 1) = (m : Int) := by rw [wrap_id (by omega)]; omega
    refine ww ?_
    have hres : encB (out ++ [c]) = encB out ++ [[Dat.int .u8 (strAt (ByteArray.mk #[48, 49, 50, 51, 52, 53, 54, 55, 56, 57, 65, 66, 67, 68, 69, 70, 71, 72, 73, 74, 75, 76, 77, 78, 79, 80, 81, 82, 83, 84, 85, 86, 87, 88, 89, 90]).data.toList x)]] := by rw [encB_append, hsc]; rfl
    exact ⟨(b2, m, out ++ [c]), ⟨r3, by rw [plainF_append, h2, hmem]; rfl, by simp only [List.length_append, List.length_singleton]; omega, by simp only [List.length_append, List.length_singleton]; omega⟩, by simp only; omega, ⟨.refl _, AV.le.eq (by rw [hres]; rfl), .int hwm, trivial⟩, ⟨ObLe.refl _, ⟨rfl, by rw [hres]⟩, trivial⟩⟩
  · have h5' : m = 0 := by simp at h5; omega
    subst h5'
    refine wwe ?_
    refine AW_seq (AW_region ?_)
    refine wws ?_
    refine AWk_step hT rfl rfl (byteCells_encB out) ?_
    refine ww ?_
    refine ret_q (r := .d (.str out)) ⟨(out, b), ⟨⟨h2, by omega, by omega⟩, h1⟩, rfl, rfl⟩ rfl ?_ rfl rfl rfl rfl
    rw [bytesOf_encB]
    exact .refl _

set_option maxHeartbeats 8000000 in
set_option maxRecDepth 100000 in
theorem DDay_spec (L : List Int) (hL : L.length ≤ 1000000) (a : Nat) (ha : a ≤ L.length) :
    Spec Tryz.prog 63 [.ptr 0 0] [.row (diceR L a)] (fun r h' => ∃ x, NextP L 72900 x ∧ r = .d (.int .i64 x.1) ∧ h' = [.row (diceR L x.2)]) := by
  have hN := fun a ha n h1 hn => Next_spec L hL a ha n h1 hn
  refine Spec_of_body hT Tryz.func63 rfl rfl rfl rfl ?_; intro E hE
  refine ww ?_
  refine AWk_opX (callX rfl rfl (hN a ha 243 (by omega) (by omega)) [0] (by decide) rfl rfl rfl rfl (fun _ => rfl) (fun _ => rfl) (fun _ => rfl)) rfl ?_
  rintro ⟨m, a1⟩ ⟨q1, q2, q3⟩
  simp only at q1 q2 q3 ⊢
  refine ww ?_
  refine AWk_opX (callX rfl rfl (hN a1 q3 300 (by omega) (by omega)) [0] (by decide) rfl rfl rfl rfl (fun _ => rfl) (fun _ => rfl) (fun _ => rfl)) rfl ?_
  rintro ⟨k, a2⟩ ⟨r1, r2, r3⟩
  simp only at r1 r2 r3 ⊢
  have hw : IntKind.i64.wrap (IntKind.i64.wrap (m * 300) + k) = m * 300 + k := by rw [wrap_id (n := m * 300) (by omega), wrap_id (by omega)]
  refine ww ?_
  exact ret_q ⟨(m * 300 + k, a2), ⟨by simp only; omega, by simp only; omega, r3⟩, rfl, rfl⟩ rfl (.int hw) rfl rfl rfl rfl
end Tdoc
/- Dice: exact contracts of a number and of signs; templates. -/
set_option linter.unusedVariables false
set_option linter.unusedSimpArgs false
namespace Tdoc
open Go Go.Proofs

def nxV (L : List Int) (a : Nat) (n : Int) : Int := match L[a]? with
  | none => 0
  | some x => x % n
def nxA (L : List Int) (a : Nat) : Nat := if a < L.length then a + 1 else a
theorem nxA_le {L : List Int} {a : Nat} (h : a ≤ L.length) : nxA L a ≤ L.length := by unfold nxA; split <;> omega
theorem nxV_range {L : List Int} {a : Nat} {n : Int} (h : 1 ≤ n) : 0 ≤ nxV L a n ∧ nxV L a n < n := by
  unfold nxV
  split
  · omega
  · exact ⟨Int.emod_nonneg _ (by omega), Int.emod_lt_of_pos _ (by omega)⟩

set_option maxHeartbeats 8000000 in
set_option maxRecDepth 100000 in
theorem NextD_spec (l : List Int) (hl : l.length ≤ 1000000) (a : Nat) (ha : a ≤ l.length) (n : Int) (h1 : 1 ≤ n) (hn : n ≤ 4611686018427387904) :
    Spec Tryz.prog 12 [.ptr 0 0, .d (.int .i64 n)] [.row (diceR l a)] (fun r h' => r = .d (.int .i64 (nxV l a n)) ∧ h' = [.row (diceR l (nxA l a))]) := by
  have hll := encI_length l
  unfold diceR
  refine Spec_of_body hT Tryz.func12 rfl rfl rfl rfl ?_; intro E hE
  refine ww ?_
  refine AW_condL rfl (fun h2 => ?_) (fun h2 => ?_)
  · have h2' : ¬ a < l.length := by rw [hll] at h2; simp at h2; omega
    have hv : nxV l a n = 0 := by unfold nxV; rw [List.getElem?_eq_none (by omega)]
    have hv2 : nxA l a = a := by unfold nxA; rw [if_neg h2']
    rw [hv, hv2]
    refine ww ?_
    exact wwr
  · have h2' : a < l.length := by rw [hll] at h2; simp at h2; omega
    have hw1 : IntKind.i64.wrap ((a : Int) + 1) = ((a + 1 : Nat) : Int) := by rw [wrap_id (by omega)]; simp
    have hw2 : IntKind.i64.wrap (((a + 1 : Nat) : Int) - 1) = (a : Int) := by rw [wrap_id (by omega)]; omega
    have h0 : 0 ≤ IntKind.i64.wrap (IntKind.i64.wrap ((a : Int) + 1) - 1) := by rw [hw1, hw2]; omega
    have hel : (encI l)[(IntKind.i64.wrap (IntKind.i64.wrap ((a : Int) + 1) - 1)).toNat]? = some [.int .i64 l[a]] := by rw [hw1, hw2]; simp [encI, h2']
    have hm := Mod_spec l[a] n h1 hn
    have hv : nxV l a n = l[a] % n := by unfold nxV; rw [List.getElem?_eq_getElem h2']
    have hv2 : nxA l a = a + 1 := by unfold nxA; rw [if_pos h2']
    rw [hv, hv2]
    generalize l[a] = x at hel hm
    refine ww ?_
    refine AWd_op (OpS_of_pure (indexAddr_ok hT rfl rfl rfl rfl h0 hel)) rfl rfl ?_
    refine ww ?_
    refine wwc hm ?_
    refine ww ?_
    refine ret_q ⟨rfl, rfl⟩ rfl (.refl _) ?_ rfl rfl rfl
    rw [hw1]; rfl

def sgC (x : Int) : UInt8 := signC.getD x.toNat 0
def sgF (L : List Int) (a : Nat) : Nat → List UInt8 × Nat
  | 0 => ([], a)
  | m + 1 => (sgC (nxV L a 36) :: (sgF L (nxA L a) m).1, (sgF L (nxA L a) m).2)
def signF (L : List Int) (a n : Nat) : List UInt8 × Nat := sgF L (nxA L a) ((nxV L a n).toNat + 1)
theorem sgC_plain {x : Int} (h : 0 ≤ x ∧ x < 36) : plainF [sgC x] = true := by
  have hxl : x.toNat < signC.length := by show x.toNat < 36; omega
  have := signC_plain
  unfold plainF at this ⊢
  rw [List.all_eq_true] at this
  have hg : sgC x = signC[x.toNat] := by unfold sgC; simp [hxl]
  rw [hg]
  simpa using this _ (List.getElem_mem hxl)
theorem sgF_ok {L : List Int} : ∀ (m a : Nat), a ≤ L.length → plainF (sgF L a m).1 = true ∧ (sgF L a m).1.length = m ∧ (sgF L a m).2 ≤ L.length
  | 0, a, h => ⟨rfl, rfl, h⟩
  | m + 1, a, h => by
    obtain ⟨h1, h2, h3⟩ := sgF_ok m (nxA L a) (nxA_le h)
    refine ⟨?_, by simp [sgF, h2], h3⟩
    show plainF ([sgC (nxV L a 36)] ++ (sgF L (nxA L a) m).1) = true
    rw [plainF_append, h1, sgC_plain (nxV_range (by omega))]; rfl
theorem signF_ok {L : List Int} {a n : Nat} (ha : a ≤ L.length) (hn : 1 ≤ n) : SignM n (signF L a n).1 ∧ (signF L a n).2 ≤ L.length := by
  have hv := nxV_range (L := L) (a := a) (n := (n : Int)) (by omega)
  obtain ⟨h1, h2, h3⟩ := sgF_ok (L := L) ((nxV L a n).toNat + 1) (nxA L a) (nxA_le ha)
  exact ⟨⟨h1, by show 1 ≤ (sgF L (nxA L a) ((nxV L a n).toNat + 1)).1.length; omega, by show (sgF L (nxA L a) ((nxV L a n).toNat + 1)).1.length ≤ n; omega⟩, h3⟩

set_option maxHeartbeats 8000000 in
set_option maxRecDepth 100000 in
theorem SignsD_spec (L : List Int) (hL : L.length ≤ 1000000) (a : Nat) (ha : a ≤ L.length) (n : Nat) (h1 : 1 ≤ n) (hn : n ≤ 100) :
    Spec Tryz.prog 61 [.ptr 0 0, .d (.int .i64 (n : Int))] [.row (diceR L a)] (fun r h' => r = .d (.str (signF L a n).1) ∧ h' = [.row (diceR L (signF L a n).2)]) := by
  have hN := NextD_spec L hL a ha (n : Int) (by omega) (by omega)
  have hv := nxV_range (L := L) (a := a) (n := (n : Int)) (by omega)
  have hA := nxA_le ha
  unfold signF
  generalize nxV L a n = m at hN hv
  generalize nxA L a = a1 at hN hA
  obtain ⟨m, rfl⟩ : ∃ m' : Nat, m = (m' : Int) := ⟨m.toNat, by omega⟩
  rw [Int.toNat_natCast]
  have hw0 : IntKind.i64.wrap (1 + (m : Int)) = ((m + 1 : Nat) : Int) := by rw [wrap_id (by omega)]; omega
  generalize hfin : sgF L a1 (m + 1) = fin
  refine Spec_of_body hT Tryz.func61 rfl rfl rfl rfl ?_; intro E hE
  refine ww ?_
  refine AWk_op (callS1 rfl rfl (hN) [0] (by decide) rfl rfl rfl rfl rfl rfl rfl) rfl ?_
  refine ww ?_
  refine AW_room (AW_acquireAt 5 1 1 (es := []) (.inr ⟨rfl, rfl⟩) rfl ?_)
  refine AW_loopL (ι := Nat × Nat × List UInt8) (fun x => [(0, .ptr 0 0), (5, .sl 1 (encB x.2.2) (.right 1)), (6, .d (.int .i64 (x.2.1 : Int)))]) (fun x => [.row (diceR L x.1), .right 1 (encB x.2.2).length])
    (fun x => x.1 ≤ L.length ∧ x.2.2 ++ (sgF L x.1 x.2.1).1 = fin.1 ∧ (sgF L x.1 x.2.1).2 = fin.2 ∧ x.2.2.length + x.2.1 ≤ n) (fun x => x.2.1) (a1, m + 1, []) ⟨hA, by simp only [hfin, List.nil_append], by simp only [hfin], by simp; omega⟩ ⟨.refl _, .refl _, .int hw0, trivial⟩ (HLe.refl _) ?_
  rintro ⟨b, m, out⟩ ⟨h1, h2, h3, h4⟩
  simp only at h1 h2 h3 h4 ⊢
  have hol := encB_length out
  refine ww ?_
  refine AW_condL rfl (fun h5 => ?_) (fun h5 => ?_)
  · obtain ⟨m, rfl⟩ : ∃ m', m = m' + 1 := ⟨m - 1, by simp at h5; omega⟩
    have hN := NextD_spec L hL b h1 36 (by omega) (by omega)
    have hv := nxV_range (L := L) (a := b) (n := 36) (by omega)
    have hA := nxA_le h1
    rw [sgF] at h2 h3
    simp only at h2 h3
    generalize nxA L b = b2 at hN hA h2 h3
    generalize nxV L b 36 = x at hN hv h2 h3
    have hxl : x.toNat < signC.length := by show x.toNat < 36; omega
    have hsx : strAt signC x = bI (sgC x) := by
      have := strAt_bI hxl
      rw [Int.toNat_of_nonneg hv.1] at this
      rw [this]; unfold sgC; simp [hxl]
    have hsc : strAt (ByteArray.mk #[48, 49, 50, 51, 52, 53, 54, 55, 56, 57, 65, 66, 67, 68, 69, 70, 71, 72, 73, 74, 75, 76, 77, 78, 79, 80, 81, 82, 83, 84, 85, 86, 87, 88, 89, 90]).data.toList x = bI (sgC x) := hsx
    generalize sgC x = c at hsc h2
    have hlen : 0 ≤ x ∧ x < ((ByteArray.mk #[48, 49, 50, 51, 52, 53, 54, 55, 56, 57, 65, 66, 67, 68, 69, 70, 71, 72, 73, 74, 75, 76, 77, 78, 79, 80, 81, 82, 83, 84, 85, 86, 87, 88, 89, 90]).data.toList.length : Int) := hv
    refine ww ?_
    refine AWk_op (callS1 rfl rfl (hN) [0] (by decide) rfl rfl rfl rfl rfl rfl rfl) rfl ?_
    refine ww ?_
    refine AWk_op (append_rightL (i := 1) hT rfl rfl rfl rfl rfl rfl (by show ((encB out).length + 1) * (1 + 1) ≤ _; first | omega | (simp only [encB_length, encNs_length, List.length_append, List.length_cons, List.length_nil]; omega))) rfl ?_
    have hwm : IntKind.i64.wrap (((m + 1 : Nat) : Int) - 1) = (m : Int) := by rw [wrap_id (by omega)]; omega
    refine ww ?_
    have hres : encB (out ++ [c]) = encB out ++ [[Dat.int .u8 (strAt (ByteArray.mk #[48, 49, 50, 51, 52, 53, 54, 55, 56, 57, 65, 66, 67, 68, 69, 70, 71, 72, 73, 74, 75, 76, 77, 78, 79, 80, 81, 82, 83, 84, 85, 86, 87, 88, 89, 90]).data.toList x)]] := by rw [encB_append, hsc]; rfl
    exact ⟨(b2, m, out ++ [c]), ⟨hA, by rw [← h2]; simp, h3, by simp only [List.length_append, List.length_singleton]; omega⟩, by simp only; omega, ⟨.refl _, AV.le.eq (by rw [hres]; rfl), .int hwm, trivial⟩, ⟨ObLe.refl _, ⟨rfl, by rw [hres]⟩, trivial⟩⟩
  · have h5' : m = 0 := by simp at h5; omega
    subst h5'
    simp only [sgF, List.append_nil] at h2 h3
    subst h2
    subst h3
    refine wwe ?_
    refine AW_seq (AW_region ?_)
    refine wws ?_
    refine AWk_step hT rfl rfl (byteCells_encB fin.1) ?_
    refine ww ?_
    refine ret_q (r := .d (.str fin.1)) ⟨rfl, rfl⟩ rfl ?_ rfl rfl rfl rfl
    rw [bytesOf_encB]
    exact .refl _

set_option maxHeartbeats 8000000 in
set_option maxRecDepth 100000 in
theorem BytesO_spec (l : List Int) (hl : l.length ≤ 1000000) (a : Nat) (ha : a ≤ l.length) (n : Nat) (hn : n ≤ 1000000) :
    Spec Tryz.prog 112 [.ptr 0 0, .d (.int .i64 (n : Int))] [.row (diceR l a), .room] (fun r h' => ∃ x, BytesP l n x ∧ r = .sl 1 (encB x.1) (.right 1) ∧ h' = [.row (diceR l x.2), .right 1 (encB x.1).length]) := by
  have hN := fun a ha n h1 hn => Next_spec l hl a ha n h1 hn
  have hw0 : IntKind.i64.wrap ((n : Int) + 1) = ((n + 1 : Nat) : Int) := by rw [wrap_id (by omega)]; omega
  refine Spec_of_body hT Tryz.func112 rfl rfl rfl rfl ?_; intro E hE
  refine ww ?_
  refine AWk_opX (callX rfl rfl (hN a ha ((n + 1 : Nat) : Int) (by omega) (by omega)) [0] (by decide) rfl (by rw [← hw0]; rfl) rfl rfl (fun _ => rfl) (fun _ => rfl) (fun _ => rfl)) rfl ?_
  rintro ⟨m, a1⟩ ⟨q1, q2, q3⟩
  simp only at q1 q2 q3 ⊢
  obtain ⟨m, rfl⟩ : ∃ m' : Nat, m = (m' : Int) := ⟨m.toNat, by omega⟩
  refine ww ?_
  refine AW_acquireAt 5 1 1 (es := []) (.inr ⟨rfl, rfl⟩) rfl ?_
  refine AW_loopL (ι := Nat × Nat × List UInt8) (fun x => [(0, .ptr 0 0), (5, .sl 1 (encB x.2.2) (.right 1)), (6, .d (.int .i64 (x.2.1 : Int)))]) (fun x => [.row (diceR l x.1), .right 1 (encB x.2.2).length])
    (fun x => x.1 ≤ l.length ∧ x.2.2.length + x.2.1 ≤ n) (fun x => x.2.1) (a1, m, []) ⟨q3, by simp; omega⟩ ⟨.refl _, .refl _, .refl _, trivial⟩ (HLe.refl _) ?_
  rintro ⟨b, m, out⟩ ⟨h1, h2⟩
  simp only at h1 h2 ⊢
  have hol := encB_length out
  refine ww ?_
  refine AW_condL rfl (fun h3 => ?_) (fun h3 => ?_)
  · obtain ⟨m, rfl⟩ : ∃ m', m = m' + 1 := ⟨m - 1, by simp at h3; omega⟩
    refine ww ?_
    refine AWk_opX (callX rfl rfl (hN b h1 256 (by omega) (by omega)) [0] (by decide) rfl rfl rfl rfl (fun _ => rfl) (fun _ => rfl) (fun _ => rfl)) rfl ?_
    rintro ⟨x, b2⟩ ⟨r1, r2, r3⟩
    simp only at r1 r2 r3 ⊢
    have hx := u8_of ⟨r1, r2⟩
    refine ww ?_
    refine AWk_op (append_rightL (i := 1) hT rfl rfl rfl rfl rfl rfl (by show ((encB out).length + 1) * (1 + 1) ≤ _; omega)) rfl ?_
    have hwm : IntKind.i64.wrap (((m + 1 : Nat) : Int) - 1) = (m : Int) := by rw [wrap_id (by omega)]; omega
    refine ww ?_
    have hres : encB (out ++ [UInt8.ofNat x.toNat]) = encB out ++ [[Dat.int .u8 (IntKind.u8.wrap x)]] := by rw [encB_append, hx]; rfl
    exact ⟨(b2, m, out ++ [UInt8.ofNat x.toNat]), ⟨r3, by simp only [List.length_append, List.length_singleton]; omega⟩, by simp only; omega, ⟨.refl _, AV.le.eq (by rw [hres]; rfl), .int hwm, trivial⟩, ⟨ObLe.refl _, ⟨rfl, by rw [hres]⟩, trivial⟩⟩
  · refine ww ?_
    exact ret_q ⟨(out, b), ⟨by simp only; omega, h1⟩, rfl, rfl⟩ rfl (.refl _) rfl rfl rfl rfl

theorem validT_mk {t : Tpl} (hk : (t.kind = 1 ∧ t.part = 0) ∨ (t.kind = 2 ∧ 1 ≤ t.part ∧ t.part ≤ 10) ∨ (t.kind = 3 ∧ 1 ≤ t.part ∧ t.part ≤ 2)) (h1 : 0 ≤ t.frm ∧ t.frm ≤ t.til ∧ t.til ≤ 73048) (h2 : 0 ≤ t.fmt ∧ t.fmt ≤ 65535)
    (h3 : 0 ≤ t.qual ∧ t.qual ≤ 100) (h4 : 1 ≤ t.data.length ∧ t.data.length ≤ 1024) : validT t = 0 := by
  have hm : mostT t.kind = if t.kind = 2 then 10 else if t.kind = 3 then 2 else 0 := rfl
  have d1 : dayOk t.frm = true := decide_eq_true ⟨h1.1, by omega⟩
  have d2 : dayOk t.til = true := decide_eq_true ⟨by omega, h1.2.2⟩
  unfold validT
  rw [if_neg (by omega)]
  rw [if_neg (by rw [hm]; split <;> (try split) <;> omega)]
  rw [if_neg (by rw [d1, d2]; simp; omega)]
  rw [if_neg (by omega)]
  rw [if_neg (by omega)]

/-- A valid template of a kind, and the place behind it. -/
def TplP (L : List Int) (k : Int) (x : Tpl × Nat) : Prop := validT x.1 = 0 ∧ x.1.kind = k ∧ x.2 ≤ L.length

set_option maxHeartbeats 8000000 in
set_option maxRecDepth 100000 in
theorem DTemplate_spec (L : List Int) (hL : L.length ≤ 1000000) (a : Nat) (ha : a ≤ L.length) (k : Int) (hk : 1 ≤ k ∧ k ≤ 3) :
    Spec Tryz.prog 64 [.ptr 0 0, .d (.int .i64 k)] [.row (diceR L a)] (fun r h' => ∃ x, TplP L k x ∧ r = tAV x.1 ∧ h' = [.row (diceR L x.2)]) := by
  have hN := fun a ha n h1 hn => Next_spec L hL a ha n h1 hn
  have hB := fun a ha => BytesO_spec L hL a ha 40 (by omega)
  refine Spec_of_body hT Tryz.func64 rfl rfl rfl rfl ?_; intro E hE
  refine AW_room ?_
  refine ww ?_
  refine AWk_opX (callX rfl rfl (hN a ha 40000 (by omega) (by omega)) [0] (by decide) rfl rfl rfl rfl (fun _ => rfl) (fun _ => rfl) (fun _ => rfl)) rfl ?_
  rintro ⟨frm, a1⟩ ⟨p1, p2, p3⟩
  simp only at p1 p2 p3 ⊢
  refine ww ?_
  refine AWk_opX (callX rfl rfl (hN a1 p3 65536 (by omega) (by omega)) [0] (by decide) rfl rfl rfl rfl (fun _ => rfl) (fun _ => rfl) (fun _ => rfl)) rfl ?_
  rintro ⟨fmt, a2⟩ ⟨q1, q2, q3⟩
  simp only at q1 q2 q3 ⊢
  refine ww ?_
  refine AWk_opX (callX rfl rfl (hN a2 q3 101 (by omega) (by omega)) [0] (by decide) rfl rfl rfl rfl (fun _ => rfl) (fun _ => rfl) (fun _ => rfl)) rfl ?_
  rintro ⟨qual, a3⟩ ⟨r1, r2, r3⟩
  simp only at r1 r2 r3 ⊢
  refine wwn ?_
  have hD := NextD_spec L hL a3 r3 30000 (by omega) (by omega)
  have hv := nxV_range (L := L) (a := a3) (n := 30000) (by omega)
  have hA := nxA_le r3
  generalize nxV L a3 30000 = dl at hD hv
  generalize nxA L a3 = a4 at hD hA
  have hw1 : IntKind.i64.wrap (frm + dl) = frm + dl := wrap_id (by omega)
  refine AW_drawG (fun i => bif Nat.beq i 1 then [3] else bif Nat.beq i 3 then [0] else bif Nat.beq i 6 then [3] else []) (fun i => bif Nat.beq i 3 then [0] else bif Nat.beq i 6 then [3] else []) mixed (by kernel_rfl) ?_
  refine wwg ?_
  refine AWg_op (v := .d (.int .i64 dl)) (os := [.row (diceR L a4)]) (fun k hk1 hk2 => callS1 rfl rfl hD [0] (by decide) (by show [k[0]?] = _; rw [hk2 0 List.mem_cons_self]; rfl) rfl rfl rfl rfl rfl rfl) rfl ?_
  refine wwg ?_
  refine ww ?_
  refine AWk_opX (callXv rfl rfl (hB a4 hA) [0, 1] (by decide) rfl rfl rfl rfl (fun _ => rfl) (v := fun x => .sl 1 (encB x.1) (.right 1)) (fun _ => rfl) (fun _ => rfl)) rfl ?_
  rintro ⟨dat, a5⟩ ⟨s1, s2⟩
  simp only at s1 s2 ⊢
  have hdl := encB_length dat
  refine ww ?_
  refine AWk_opX (callX rfl rfl (hN a5 s2 256 (by omega) (by omega)) [0] (by decide) rfl rfl rfl rfl (fun _ => rfl) (fun _ => rfl) (fun _ => rfl)) rfl ?_
  rintro ⟨x, a6⟩ ⟨t1, t2, t3⟩
  simp only at t1 t2 t3 ⊢
  have hx := u8_of ⟨t1, t2⟩
  refine ww ?_
  refine AWk_op (append_rightL (i := 1) hT rfl rfl rfl rfl rfl rfl (by show ((encB dat).length + 1) * (1 + 1) ≤ _; first | omega | (simp only [encB_length, encNs_length, List.length_append, List.length_cons, List.length_nil]; omega))) rfl ?_
  have hres : encB (dat ++ [UInt8.ofNat x.toNat]) = encB dat ++ [[Dat.int .u8 (IntKind.u8.wrap x)]] := by rw [encB_append, hx]; rfl
  rw [← hres]
  have hel : 1 ≤ (dat ++ [UInt8.ofNat x.toNat]).length ∧ (dat ++ [UInt8.ofNat x.toNat]).length ≤ 41 := by simp; omega
  generalize dat ++ [UInt8.ofNat x.toNat] = da at hel
  refine ww ?_
  refine AW_condL rfl (fun c1 => ?_) (fun c1 => ?_)
  · have c1' : k = 2 := by simpa using c1
    refine ww ?_
    refine AWk_opX (callX rfl rfl (hN a6 t3 10 (by omega) (by omega)) [0] (by decide) rfl rfl rfl rfl (fun _ => rfl) (fun _ => rfl) (fun _ => rfl)) rfl ?_
    rintro ⟨y, a7⟩ ⟨u1, u2, u3⟩
    simp only at u1 u2 u3 ⊢
    have hw2 : IntKind.i64.wrap (1 + y) = 1 + y := wrap_id (by omega)
    refine ww ?_
    exact rq ⟨(⟨k, 1 + y, frm, frm + dl, fmt, qual, da⟩, a7), ⟨validT_mk (.inr (.inl ⟨c1', by simp only; omega, by simp only; omega⟩)) ⟨p1, by simp only; omega, by simp only; omega⟩ ⟨q1, by simp only; omega⟩ ⟨r1, by simp only; omega⟩ ⟨hel.1, by simp only; omega⟩, rfl, u3⟩, rfl, rfl⟩ rfl (AV.le.agg ⟨.refl _, .int hw2, .refl _, .int hw1, .refl _, .refl _, .dat, trivial⟩)
  have c1' : ¬ k = 2 := by simpa using c1
  refine ww ?_
  refine AW_condL rfl (fun c2 => ?_) (fun c2 => ?_)
  · have c2' : k = 3 := by simpa using c2
    refine ww ?_
    refine AWk_opX (callX rfl rfl (hN a6 t3 2 (by omega) (by omega)) [0] (by decide) rfl rfl rfl rfl (fun _ => rfl) (fun _ => rfl) (fun _ => rfl)) rfl ?_
    rintro ⟨y, a7⟩ ⟨u1, u2, u3⟩
    simp only at u1 u2 u3 ⊢
    have hw2 : IntKind.i64.wrap (1 + y) = 1 + y := wrap_id (by omega)
    refine ww ?_
    exact rq ⟨(⟨k, 1 + y, frm, frm + dl, fmt, qual, da⟩, a7), ⟨validT_mk (.inr (.inr ⟨c2', by simp only; omega, by simp only; omega⟩)) ⟨p1, by simp only; omega, by simp only; omega⟩ ⟨q1, by simp only; omega⟩ ⟨r1, by simp only; omega⟩ ⟨hel.1, by simp only; omega⟩, rfl, u3⟩, rfl, rfl⟩ rfl (AV.le.agg ⟨.refl _, .int hw2, .refl _, .int hw1, .refl _, .refl _, .dat, trivial⟩)
  have c2' : ¬ k = 3 := by simpa using c2
  refine ww ?_
  exact rq ⟨(⟨k, 0, frm, frm + dl, fmt, qual, da⟩, a6), ⟨validT_mk (.inl ⟨by simp only; omega, rfl⟩) ⟨p1, by simp only; omega, by simp only; omega⟩ ⟨q1, by simp only; omega⟩ ⟨r1, by simp only; omega⟩ ⟨hel.1, by simp only; omega⟩, rfl, t3⟩, rfl, rfl⟩ rfl (AV.le.agg ⟨.refl _, .refl _, .refl _, .int hw1, .refl _, .refl _, .dat, trivial⟩)

def TplsP (L : List Int) (k : Int) (x : List Tpl × Nat) : Prop := (∀ t, t ∈ x.1 → validT t = 0 ∧ t.kind = k) ∧ 1 ≤ x.1.length ∧ x.1.length ≤ 3 ∧ x.2 ≤ L.length

set_option maxHeartbeats 8000000 in
set_option maxRecDepth 100000 in
theorem DTemplates_spec (L : List Int) (hL : L.length ≤ 1000000) (a : Nat) (ha : a ≤ L.length) (k : Int) (hk : 1 ≤ k ∧ k ≤ 3) :
    Spec Tryz.prog 18 [.ptr 0 0, .d (.int .i64 k)] [.row (diceR L a)] (fun r h' => ∃ x, TplsP L k x ∧ r = .d (.sl 7 (encTs x.1)) ∧ h' = [.row (diceR L x.2)]) := by
  have hN := Next_spec L hL a ha 3 (by omega) (by omega)
  have hT' := fun a ha => DTemplate_spec L hL a ha k hk
  refine Spec_of_body hT Tryz.func18 rfl rfl rfl rfl ?_; intro E hE
  refine ww ?_
  refine AWk_opX (callX rfl rfl (hN) [0] (by decide) rfl rfl rfl rfl (fun _ => rfl) (fun _ => rfl) (fun _ => rfl)) rfl ?_
  rintro ⟨m, a1⟩ ⟨q1, q2, q3⟩
  simp only at q1 q2 q3 ⊢
  obtain ⟨m, rfl⟩ : ∃ m' : Nat, m = (m' : Int) := ⟨m.toNat, by omega⟩
  have hw0 : IntKind.i64.wrap (1 + (m : Int)) = ((m + 1 : Nat) : Int) := by rw [wrap_id (by omega)]; omega
  refine ww ?_
  refine AW_room (AW_acquireAt 5 7 1 (es := []) (.inr ⟨rfl, rfl⟩) rfl ?_)
  refine AW_loopL (ι := Nat × Nat × List Tpl) (fun x => [(0, .ptr 0 0), (1, .d (.int .i64 k)), (5, .sl 7 (encTs x.2.2) (.right 1)), (6, .d (.int .i64 (x.2.1 : Int)))]) (fun x => [.row (diceR L x.1), .right 7 (encTs x.2.2).length])
    (fun x => x.1 ≤ L.length ∧ (∀ t, t ∈ x.2.2 → validT t = 0 ∧ t.kind = k) ∧ x.2.2.length + x.2.1 ≤ 3 ∧ 1 ≤ x.2.2.length + x.2.1) (fun x => x.2.1) (a1, m + 1, []) ⟨q3, (by simp), by simp; omega, by simp⟩ ⟨.refl _, .refl _, .refl _, .int hw0, trivial⟩ (HLe.refl _) ?_
  rintro ⟨b, m, out⟩ ⟨h1, h2, h3, h4⟩
  simp only at h1 h2 h3 h4 ⊢
  have hol := encTs_length out
  refine ww ?_
  refine AW_condL rfl (fun h5 => ?_) (fun h5 => ?_)
  · obtain ⟨m, rfl⟩ : ∃ m', m = m' + 1 := ⟨m - 1, by simp at h5; omega⟩
    have hwm : IntKind.i64.wrap (((m + 1 : Nat) : Int) - 1) = (m : Int) := by rw [wrap_id (by omega)]; omega
    refine ww ?_
    refine AWk_opX (callX rfl rfl (hT' b h1) [0] (by decide) rfl rfl rfl rfl (fun _ => rfl) (fun _ => rfl) (fun _ => rfl)) rfl ?_
    rintro ⟨t, b2⟩ ⟨r1, r2, r3⟩
    simp only at r1 r2 r3 ⊢
    unfold tAV tCells
    refine ww ?_
    refine AWk_op (append_rightL (i := 1) hT rfl rfl rfl rfl rfl rfl (by show ((encTs out).length + 1) * (72 + 1) ≤ _; first | omega | (simp only [encB_length, encNs_length, List.length_append, List.length_cons, List.length_nil]; omega))) rfl ?_
    refine ww ?_
    have hres : encTs (out ++ [t]) = encTs out ++ [encT t] := by rw [encTs_append]; rfl
    refine ⟨(b2, m, out ++ [t]), ⟨r3, fun y hy => ?_, by simp only [List.length_append, List.length_singleton]; omega, by simp only [List.length_append, List.length_singleton]; omega⟩, by simp only; omega, ⟨.refl _, .refl _, AV.le.eq (by rw [hres]; rfl), .int hwm, trivial⟩, ⟨ObLe.refl _, ⟨rfl, by rw [hres]; rfl⟩, trivial⟩⟩
    rcases List.mem_append.1 hy with hy | hy
    · exact h2 y hy
    · rw [List.mem_singleton.1 hy]; exact ⟨r1, r2⟩
  · have h5' : m = 0 := by simp at h5; omega
    subst h5'
    refine ww ?_
    exact ret_q ⟨(out, b), ⟨h2, by simp only; omega, by simp only; omega, h1⟩, rfl, rfl⟩ rfl .dat rfl rfl rfl rfl
end Tdoc
/- Dice: details. -/
set_option linter.unusedVariables false
set_option linter.unusedSimpArgs false
namespace Tdoc
open Go Go.Proofs

theorem flat_at {sz : Nat} : ∀ {es : List (List Dat)} {i j : Nat} {e : List Dat} {d : Dat}, (∀ e, e ∈ es → e.length = sz) → es[i]? = some e → e[j]? = some d → es.flatten[i * sz + j]? = some d
  | [], i, j, e, d, _, h, _ => by simp at h
  | a :: l, 0, j, e, d, hs, h, h2 => by
    simp at h; subst h
    have hj := (List.getElem?_eq_some_iff.1 h2).1
    rw [List.flatten_cons, Nat.zero_mul, Nat.zero_add, List.getElem?_append_left hj]; exact h2
  | a :: l, i + 1, j, e, d, hs, h, h2 => by
    have ha := hs a (by simp)
    have := flat_at (es := l) (i := i) (fun e he => hs e (by simp [he])) (by simpa using h) h2
    rw [List.flatten_cons, List.getElem?_append_right (by rw [ha, Nat.succ_mul]; omega), ha, show (i + 1) * sz + j - sz = i * sz + j by rw [Nat.succ_mul]; omega]
    exact this
theorem RowDat_flat {sz : Nat} {es : List (List Dat)} (hs : ∀ e, e ∈ es → e.length = sz) : RowDat (flatAV es) 0 sz es :=
  ⟨hs, fun i e j d h1 h2 => ⟨.d d, by unfold flatAV; rw [Nat.zero_add, List.getElem?_map, flat_at hs h1 h2]; rfl, rfl⟩⟩
theorem flatAV_append (a b : List (List Dat)) : flatAV (a ++ b) = flatAV a ++ flatAV b := by simp [flatAV]
theorem encDs_size (l : List Det) : ∀ e, e ∈ encDs l → e.length = 2 := fun e he => by
  obtain ⟨x, _, rfl⟩ := List.mem_map.1 he; rfl

def dTags (n : Int) : List Int := if n = 12 then [24345, 24358, 24347, 24405] else [24334, 24336, 24337, 24386, 24338, 24339, 24340, 24341]
theorem dTags_len (n : Int) : (dTags n).length ≤ 8 := by unfold dTags; split <;> simp
theorem dTags_nodup (n : Int) : (dTags n).Nodup := by unfold dTags; split <;> decide
theorem dTags_belong {n : Int} (hn : n = 11 ∨ n = 12) : ∀ t, t ∈ dTags n → belongsF n t = true := by
  rcases hn with rfl | rfl <;> decide

/-- Details of a group: their tags differ and belong to it, their texts are signs. -/
def DetM (n : Int) (l : List Det) : Prop := (∀ d, d ∈ l → d.tag ∈ dTags n ∧ SignM 99 d.text) ∧ (l.map Det.tag).Nodup ∧ l.length ≤ 8
def DetsP (L : List Int) (n : Int) (x : List Det × Nat) : Prop := DetM n x.1 ∧ x.2 ≤ L.length
theorem DetM.swap {n : Int} {a b : Det} {l : List Det} (h : DetM n (a :: b :: l)) : DetM n (b :: a :: l) := by
  obtain ⟨h1, h2, h3⟩ := h
  refine ⟨fun d hd => h1 d (by simp only [List.mem_cons] at hd ⊢; rcases hd with h | h | h <;> simp [h]), ?_, by simpa using h3⟩
  simp only [List.map_cons, List.nodup_cons, List.mem_cons, not_or] at h2 ⊢
  exact ⟨⟨fun hh => h2.1.1 hh.symm, h2.2.1⟩, h2.1.2, h2.2.2⟩

set_option maxHeartbeats 8000000 in
set_option maxRecDepth 100000 in
theorem DDetails_spec (L : List Int) (hL : L.length ≤ 1000000) (a : Nat) (ha : a ≤ L.length) (n : Int) :
    Spec Tryz.prog 19 [.ptr 0 0, .d (.int .i64 n)] [.row (diceR L a)] (fun r h' => ∃ x, DetsP L n x ∧ r = .d (.sl 2 (encDs x.1)) ∧ h' = [.row (diceR L x.2)]) := by
  have hO := fun a ha => One_spec L hL a ha 2 (by omega) (by omega)
  have hS := fun a ha => SignsD_spec L hL a ha 99 (by omega) (by omega)
  refine Spec_of_body hT Tryz.func19 rfl rfl rfl rfl ?_; intro E hE
  refine AW_room ?_
  refine wwe ?_
  refine AW_seq (AW_region ?_)
  refine wws ?_
  refine AW_seq (AW_region ?_)
  refine wws ?_
  refine AW_seq_cut (ι := Unit) (fun _ => [(0, .ptr 0 0), (1, .d (.int .i64 n)), (5, .d (.sl 1 (encI (dTags n))))]) (fun _ => [.row (diceR L a), .room]) (fun _ => True) ?_ (fun _ _ => ?_)
  · refine ww ?_
    refine AW_condL rfl (fun c1 => ?_) (fun c1 => ?_)
    · have c1' : n = 12 := by simpa using c1
      subst c1'
      refine ww ?_
      exact ⟨(), trivial, ⟨.refl _, .refl _, .dat, trivial⟩, HLe.refl _⟩
    · have c1' : ¬ n = 12 := by simpa using c1
      have hd : dTags n = [24334, 24336, 24337, 24386, 24338, 24339, 24340, 24341] := by unfold dTags; rw [if_neg c1']
      rw [hd]
      refine ww ?_
      exact ⟨(), trivial, ⟨.refl _, .refl _, .dat, trivial⟩, HLe.refl _⟩
  have hTl := encI_length (dTags n)
  have hT8 := dTags_len n
  refine wwe ?_
  refine AW_seq (AW_region ?_)
  refine wws ?_
  refine AW_bufOf 6 2 1 (.inr rfl) rfl rfl ?_
  refine AW_seq_cut (ι := List Det × Nat) (fun x => [(0, .ptr 0 0), (6, .bm 1 x.1.length)]) (fun x => [.row (diceR L x.2), .buf 2 x.1.length (flatAV (encDs x.1))]) (fun x => DetM n x.1 ∧ x.2 ≤ L.length) ?_ ?_
  · refine ww ?_
    refine AW_loopL (ι := Nat × Nat × List Det) (fun x => [(0, .ptr 0 0), (5, .d (.sl 1 (encI (dTags n)))), (6, .bm 1 x.2.2.length), (7, .d (.int .i64 (x.1 : Int)))]) (fun x => [.row (diceR L x.2.1), .buf 2 x.2.2.length (flatAV (encDs x.2.2))])
      (fun x => x.1 ≤ (dTags n).length ∧ x.2.1 ≤ L.length ∧ (x.2.2.map Det.tag).Sublist ((dTags n).take x.1) ∧ ∀ d, d ∈ x.2.2 → SignM 99 d.text) (fun x => (dTags n).length - x.1) (0, a, []) ⟨by simp, ha, by simp, by simp⟩ ⟨.refl _, .refl _, .refl _, .refl _, trivial⟩ (HLe.refl _) ?_
    rintro ⟨i, b, out⟩ ⟨h1, h2, h3, h4⟩
    simp only at h1 h2 h3 h4 ⊢
    have hol : out.length ≤ 8 := by have := h3.length_le; rw [List.length_map, List.length_take] at this; omega
    have hwr : IntKind.i64.wrap ((i : Int) + 1) = ((i + 1 : Nat) : Int) := by rw [wrap_id (by omega)]; simp
    refine ww ?_
    refine AW_condL rfl (fun c2 => ?_) (fun c2 => ?_)
    · have c2' : i < (dTags n).length := by rw [hTl] at c2; simpa using c2
      have hel : (encI (dTags n))[((i : Int)).toNat]? = some [.int .i64 (dTags n)[i]] := by simp [encI, c2']
      have htk : (dTags n).take (i + 1) = (dTags n).take i ++ [(dTags n)[i]] := List.take_succ_eq_append_getElem c2'
      have hskip : (out.map Det.tag).Sublist ((dTags n).take (i + 1)) := by rw [htk]; exact h3.trans (List.sublist_append_left _ _)
      refine ww ?_
      refine AWk_opX (callX rfl rfl (hO b h2) [0] (by decide) rfl rfl rfl rfl (fun _ => rfl) (fun _ => rfl) (fun _ => rfl)) rfl ?_
      rintro ⟨f, b2⟩ r1
      simp only at r1 ⊢
      refine ww ?_
      refine AW_condL rfl (fun c3 => ?_) (fun c3 => ?_)
      · have hs := hS b2 r1
        have hso := signF_ok (L := L) (n := 99) r1 (by omega)
        generalize (dTags n)[i] = tg at hel htk
        generalize signF L b2 99 = q at hs hso
        obtain ⟨s, b3⟩ := q
        simp only at hs hso
        have htake : ((out ++ [(⟨tg, s⟩ : Det)]).map Det.tag).Sublist ((dTags n).take (i + 1)) := by rw [htk, List.map_append]; exact h3.append_right _
        have hsg : ∀ d, d ∈ out ++ [(⟨tg, s⟩ : Det)] → SignM 99 d.text := fun d hd => by
          rcases List.mem_append.1 hd with hd | hd
          · exact h4 d hd
          · rw [List.mem_singleton.1 hd]; exact hso.1
        refine wwn ?_
        refine AW_drawG (fun i => bif Nat.beq i 6 then [0] else bif Nat.beq i 9 then [1] else []) (fun i => bif Nat.beq i 6 then [0] else bif Nat.beq i 9 then [1] else []) mixed (by kernel_rfl) ?_
        refine wwg ?_
        refine AWg_opP (indexAddr_ok hT rfl rfl rfl rfl (by omega) hel) rfl rfl ?_
        refine wwg ?_
        refine AWg_op (v := .d (.str s)) (os := [.row (diceR L b3)]) (fun k hk1 hk2 => callS1 rfl rfl hs [0] (by decide) (by show [k[0]?] = _; rw [hk2 0 List.mem_cons_self]; rfl) rfl rfl rfl rfl rfl rfl) rfl ?_
        refine wwg ?_
        refine AWg_op (os := []) (fun k hk1 hk2 => buildSl_ok hT rfl rfl) rfl ?_
        refine wwg ?_
        refine AWg_op (v := .bm 1 (out.length + 1)) (os := [.buf 2 (out.length + 1) (flatAV (encDs out) ++ flatAV [[.int .i64 tg, .str s]])]) (fun k hk1 hk2 => bufApp_ok (i := 1) (sz := 2) (by_ := 24) (n := out.length) (es2 := [[.int .i64 tg, .str s]]) hT rfl rfl rfl rfl (hk2 1 List.mem_cons_self) rfl (by show (out.length + 1) * (24 + 1) ≤ _; omega)) rfl ?_
        refine wwg ?_
        refine ww ?_
        have hfl : flatAV (encDs (out ++ [(⟨tg, s⟩ : Det)])) = flatAV (encDs out) ++ flatAV [[.int .i64 tg, .str s]] := by rw [encDs_append, flatAV_append]; rfl
        refine ⟨(i + 1, b3, out ++ [⟨tg, s⟩]), ⟨c2', hso.2, htake, hsg⟩, by simp only; omega, ⟨.refl _, .refl _, AV.le.eq (by show AV.bm 1 (out.length + 1) = AV.bm 1 (out ++ [(⟨tg, s⟩ : Det)]).length; rw [List.length_append]; rfl), .int hwr, trivial⟩, ?_⟩
        rw [show (out ++ [(⟨tg, s⟩ : Det)]).length = out.length + 1 by simp, hfl]
        exact HLe.refl _
      · refine ww ?_
        exact ⟨(i + 1, b2, out), ⟨c2', r1, hskip, h4⟩, by simp only; omega, ⟨.refl _, .refl _, .refl _, .int hwr, trivial⟩, HLe.refl _⟩
    · have c2' : i = (dTags n).length := by rw [hTl] at c2; simp at c2; omega
      subst c2'
      rw [List.take_length] at h3
      refine ww ?_
      exact ⟨(out, b), ⟨⟨fun d hd => ⟨h3.subset (List.mem_map_of_mem hd), h4 d hd⟩, (dTags_nodup n).sublist h3, hol⟩, h2⟩, ⟨.refl _, .refl _, trivial⟩, HLe.refl _⟩
  rintro ⟨l, b⟩ ⟨hd, hb⟩
  simp only at hd hb ⊢
  have hsz := encDs_size l
  have hll := hd.2.2
  refine AW_seq_cut (ι := List Det × Nat) (fun x => [(0, .ptr 0 0), (6, .bm 1 x.1.length)]) (fun x => [.row (diceR L x.2), .buf 2 x.1.length (flatAV (encDs x.1))]) (fun x => DetM n x.1 ∧ x.2 ≤ L.length) ?_ ?_
  · refine ww ?_
    refine AWk_gopX (.d (.bool false)) rfl rfl rfl (fun hg => ⟨by first | exact True.intro | exact ⟨hg, True.intro⟩ | exact ⟨hg, hg, True.intro⟩, callX rfl rfl (hO b hb) [0] (by decide) rfl rfl rfl rfl (fun _ => rfl) (fun _ => rfl) (fun _ => rfl)⟩) ?_ ?_
    · rintro hg ⟨f, b2⟩ r1
      simp only at r1 ⊢
      have hg' : 1 < l.length := by simp [gval] at hg; omega
      refine ww ?_
      refine AW_condL rfl (fun c4 => ?_) (fun c4 => ?_)
      · obtain ⟨d0, d1, r, rfl⟩ : ∃ d0 d1 r, l = d0 :: d1 :: r := match l, hg' with
          | d0 :: d1 :: r, _ => ⟨d0, d1, r, rfl⟩
          | [x], h => by simp at h
          | [], h => by simp at h
        have hn2 : (d0 :: d1 :: r).length = r.length + 2 := rfl
        refine wwn ?_
        refine AW_drawG (fun i => bif Nat.beq i 4 then [1] else bif Nat.beq i 7 then [1] else bif Nat.beq i 9 then [1] else bif Nat.beq i 11 then [1] else []) (fun i => bif Nat.beq i 9 then [1] else bif Nat.beq i 11 then [1] else []) mixed (by kernel_rfl) ?_
        refine wwg ?_
        refine AWg_opP (bufAddr_ok (sz := 2) hT rfl rfl rfl rfl ⟨by omega, by rw [hn2]; omega⟩) rfl rfl ?_
        refine AWg_op (v := .agg [.d (.int .i64 d1.tag), .d (.str d1.text)]) (os := []) (fun k hk1 hk2 => bufLoadN (ti := ⟨.struct [(0, 1, false), (1, 1, false)], 2, 24, [.d (.int .i64 0), .d (.str [])]⟩) hT rfl rfl (hk2 1 List.mem_cons_self) rfl rfl (by simp) (by simp [flatAV, encDs, encD]) rfl) rfl ?_
        refine wwg ?_
        refine AWg_opP (bufAddr_ok (sz := 2) hT rfl rfl rfl rfl ⟨by omega, by rw [hn2]; omega⟩) rfl rfl ?_
        refine AWg_op (v := .agg [.d (.int .i64 d0.tag), .d (.str d0.text)]) (os := []) (fun k hk1 hk2 => bufLoadN (ti := ⟨.struct [(0, 1, false), (1, 1, false)], 2, 24, [.d (.int .i64 0), .d (.str [])]⟩) hT rfl rfl (hk2 1 List.mem_cons_self) rfl rfl (by simp) (by simp [flatAV, encDs, encD]) rfl) rfl ?_
        refine wwg ?_
        refine AWg_opP (bufAddr_ok (sz := 2) hT rfl rfl rfl rfl ⟨by omega, by rw [hn2]; omega⟩) rfl rfl ?_
        refine AWg_op (v := .any) (os := [.buf 2 (d0 :: d1 :: r).length (flatAV (encDs (d1 :: d1 :: r)))]) (fun k hk1 hk2 => bufStoreN (ti := ⟨.struct [(0, 1, false), (1, 1, false)], 2, 24, [.d (.int .i64 0), .d (.str [])]⟩) (cs := [.d (.int .i64 d1.tag), .d (.str d1.text)]) hT rfl rfl rfl rfl (hk2 1 List.mem_cons_self) rfl rfl (by simp) (by simp [flatAV, encDs, encD]) rfl) rfl ?_
        refine wwg ?_
        refine AWg_opP (bufAddr_ok (sz := 2) hT rfl rfl rfl rfl ⟨by omega, by rw [hn2]; omega⟩) rfl rfl ?_
        refine AWg_op (v := .any) (os := [.buf 2 (d0 :: d1 :: r).length (flatAV (encDs (d1 :: d0 :: r)))]) (fun k hk1 hk2 => bufStoreN (ti := ⟨.struct [(0, 1, false), (1, 1, false)], 2, 24, [.d (.int .i64 0), .d (.str [])]⟩) (cs := [.d (.int .i64 d0.tag), .d (.str d0.text)]) hT rfl rfl rfl rfl (hk2 1 List.mem_cons_self) rfl rfl (by simp) (by simp [flatAV, encDs, encD]) rfl) rfl ?_
        refine wwg ?_
        refine ww ?_
        exact ⟨(d1 :: d0 :: r, b2), ⟨hd.swap, r1⟩, ⟨.refl _, .refl _, trivial⟩, HLe.refl _⟩
      · refine ww ?_
        exact ⟨(l, b2), ⟨hd, r1⟩, ⟨.refl _, .refl _, trivial⟩, HLe.refl _⟩
    · intro hg
      have hg' : ¬ 1 < l.length := by simp [gval] at hg; omega
      refine AWk_step hT rfl rfl (by intro hh; simp at hh; omega) ?_
      refine ww ?_
      refine AW_condL rfl (fun c4 => ?_) (fun c4 => ?_)
      · exact absurd c4 (by simp)
      · refine ww ?_
        exact ⟨(l, b), ⟨hd, hb⟩, ⟨.refl _, .refl _, trivial⟩, HLe.refl _⟩
  rintro ⟨l, b⟩ ⟨hd, hb⟩
  simp only at hd hb ⊢
  refine AW_freezeBuf 6 1 2 (encDs l) rfl rfl (encDs_length l) (RowDat_flat (encDs_size l)) rfl ?_
  refine ww ?_
  exact ret_q ⟨(l, b), ⟨hd, hb⟩, rfl, rfl⟩ rfl .dat rfl rfl rfl rfl
end Tdoc
/- Dice: infos. -/
set_option linter.unusedVariables false
set_option linter.unusedSimpArgs false
namespace Tdoc
open Go Go.Proofs

/-- An info that is made of numbers. -/
def InfMade (x : Inf) : Prop := (1 ≤ x.ver ∧ x.ver ≤ 255) ∧ (((x.proto = 2 ∨ x.proto = 3) ∧ (0 ≤ x.par ∧ x.par ≤ 31) ∧ x.key = 0 ∧ x.kid = 0) ∨ (x.proto = 4 ∧ x.par = 0 ∧ (0 ≤ x.kid ∧ x.kid ≤ 119) ∧ ∃ n, x.key = pointG n) ∨ ((x.proto = 5 ∨ x.proto = 6) ∧ x.par = 0 ∧ x.key = 0 ∧ x.kid = 0))
def InfB (y x : Inf) : Prop := y.proto < x.proto ∨ (y.proto = x.proto ∧ y.kid < x.kid)
def InfsM (l : List Inf) : Prop := (∀ x, x ∈ l → InfMade x) ∧ l.Pairwise InfB ∧ l.length ≤ 7
def DInfsP (L : List Int) (x : List Inf × Nat) : Prop := InfsM x.1 ∧ x.2 ≤ L.length

theorem infs_snoc {l : List Inf} {x : Inf} {P : Inf → Prop} (h1 : ∀ y, y ∈ l → InfMade y ∧ P y) (hp : l.Pairwise InfB) (hb : ∀ y, P y → InfB y x) (hx : InfMade x) {R : Inf → Prop} (hR : R x) (hPR : ∀ y, P y → R y) :
    (∀ y, y ∈ l ++ [x] → InfMade y ∧ R y) ∧ (l ++ [x]).Pairwise InfB := by
  refine ⟨fun y hy => ?_, ?_⟩
  · rcases List.mem_append.1 hy with hy | hy
    · exact ⟨(h1 y hy).1, hPR y (h1 y hy).2⟩
    · rw [List.mem_singleton.1 hy]; exact ⟨hx, hR⟩
  · rw [List.pairwise_append]
    exact ⟨hp, List.pairwise_singleton _ _, fun y hy z hz => by rw [List.mem_singleton.1 hz]; exact hb y (h1 y hy).2⟩

set_option maxHeartbeats 8000000 in
set_option maxRecDepth 100000 in
theorem DInfos_spec (L : List Int) (hL : L.length ≤ 1000000) (a : Nat) (ha : a ≤ L.length) :
    Spec Tryz.prog 20 [.ptr 0 0] [.row (diceR L a)] (fun r h' => ∃ x, DInfsP L x ∧ r = .d (.sl 5 (encFs x.1)) ∧ h' = [.row (diceR L x.2)]) := by
  have hN := fun a ha n h1 hn => Next_spec L hL a ha n h1 hn
  have hO := fun a ha => One_spec L hL a ha 2 (by omega) (by omega)
  refine Spec_of_body hT Tryz.func20 rfl rfl rfl rfl ?_; intro E hE
  refine AW_room ?_
  refine wwe ?_
  refine AW_seq (AW_region ?_)
  refine wws ?_
  refine AW_seq (AW_region ?_)
  refine wws ?_
  refine AW_acquireAt 3 5 1 (es := []) (.inr ⟨rfl, rfl⟩) rfl ?_
  refine ww ?_
  refine AW_loopC (ι := Nat × Nat × List Inf) (fun x => [(0, .ptr 0 0), (3, .sl 5 (encFs x.2.2) (.right 1)), (4, .d (.int .i64 (x.1 : Int)))]) (fun x => [.row (diceR L x.2.1), .right 5 (encFs x.2.2).length])
    (fun x => (2 ≤ x.1 ∧ x.1 ≤ 7) ∧ x.2.1 ≤ L.length ∧ (∀ y, y ∈ x.2.2 → InfMade y ∧ y.proto < (x.1 : Int)) ∧ x.2.2.Pairwise InfB ∧ x.2.2.length ≤ x.1 - 2 + (if x.1 ≤ 4 then 0 else 2)) (fun x => 7 - x.1) (2, a, []) ⟨by omega, ha, by simp, by simp, by simp⟩ ⟨.refl _, .refl _, .refl _, trivial⟩ (HLe.refl _) ?_
  rintro ⟨p, b, out⟩ ⟨h0, h1, h2, h3, h4⟩
  simp only at h0 h1 h2 h3 h4 ⊢
  have hol := encFs_length out
  have ho7 : out.length ≤ 7 := by revert h4; split <;> omega
  have hwp : IntKind.i64.wrap ((p : Int) + 1) = ((p + 1 : Nat) : Int) := by rw [wrap_id (by omega)]; omega
  have hmk : ∀ x : Inf, encFs (out ++ [x]) = encFs out ++ [encF x] := fun x => by rw [encFs_append]; rfl
  have fin : ∀ (b2 : Nat) (o2 : List Inf) (w : List (List Dat)) (junk : List AObj) (τ : Nat → AV), p ≤ 6 → b2 ≤ L.length → (∀ y, y ∈ o2 → InfMade y ∧ y.proto < ((p + 1 : Nat) : Int)) → o2.Pairwise InfB → o2.length ≤ p - 1 + (if p ≤ 3 then 0 else 2) → encFs o2 = w →
      AV.le (τ 0) (.ptr 0 0) → AV.le (τ 3) (.sl 5 w (.right 1)) → AV.le (τ 4) (.d (.int .i64 (IntKind.i64.wrap ((p : Int) + 1)))) →
      ∃ (y : Nat × Nat × List Inf) (junk' : List AObj), ((2 ≤ y.1 ∧ y.1 ≤ 7) ∧ y.2.1 ≤ L.length ∧ (∀ z, z ∈ y.2.2 → InfMade z ∧ z.proto < (y.1 : Int)) ∧ y.2.2.Pairwise InfB ∧ y.2.2.length ≤ y.1 - 2 + (if y.1 ≤ 4 then 0 else 2)) ∧ 7 - y.1 < 7 - p ∧ SubL τ [(0, .ptr 0 0), (3, .sl 5 (encFs y.2.2) (.right 1)), (4, .d (.int .i64 (y.1 : Int)))] ∧
        HLe ([.row (diceR L b2), .right 5 w.length] ++ junk) ([.row (diceR L y.2.1), .right 5 (encFs y.2.2).length] ++ junk') ∧ E.below [AObj.row (diceR L y.2.1), .right 5 (encFs y.2.2).length].length ∧ lowS [AObj.row (diceR L y.2.1), .right 5 (encFs y.2.2).length].length [(0, .ptr 0 0), (3, .sl 5 (encFs y.2.2) (.right 1)), (4, .d (.int .i64 (y.1 : Int)))] = true ∧ lowH [AObj.row (diceR L y.2.1), .right 5 (encFs y.2.2).length].length [AObj.row (diceR L y.2.1), .right 5 (encFs y.2.2).length] = true := by
    rintro b2 o2 w junk τ g1 g2 g3 g4 g5 rfl g7 g8 g9
    rw [hwp] at g9
    refine ⟨(p + 1, b2, o2), junk, ⟨by omega, g2, g3, g4, ?_⟩, by simp only; omega, ⟨g7, g8, g9, trivial⟩, HLe.refl _, Env.below_mono hE (by simp), rfl, rfl⟩
    simp only
    by_cases hp : p ≤ 3
    · rw [if_pos (by omega)]; rw [if_pos hp] at g5; omega
    · rw [if_neg (by omega)]; rw [if_neg hp] at g5; omega
  refine ww ?_
  refine AW_condL rfl (fun c1 => ?_) (fun c1 => ?_)
  · have c1' : p ≤ 6 := by simp at c1; omega
    have hlen1 : out.length + 1 ≤ p - 1 + (if p ≤ 3 then 0 else 2) := by
      revert h4
      by_cases hp : p ≤ 3
      · rw [if_pos (by omega), if_pos hp]; omega
      · rw [if_neg hp]; split <;> omega
    have hout : ∀ y, y ∈ out → InfMade y ∧ y.proto < ((p + 1 : Nat) : Int) := fun y hy => ⟨(h2 y hy).1, by have := (h2 y hy).2; omega⟩
    refine ww ?_
    refine AWk_opX (callX rfl rfl (hO b h1) [0] (by decide) rfl rfl rfl rfl (fun _ => rfl) (fun _ => rfl) (fun _ => rfl)) rfl ?_
    rintro ⟨f, b2⟩ r1
    simp only at r1 ⊢
    refine ww ?_
    refine AW_condL rfl (fun c2 => ?_) (fun c2 => ?_)
    · refine ww ?_
      exact fin b2 out _ [] _ c1' r1 hout h3 (by omega) rfl (.refl _) (.refl _) (.refl _)
    · refine ww ?_
      refine AWk_opX (callX rfl rfl (hN b2 r1 255 (by omega) (by omega)) [0] (by decide) rfl rfl rfl rfl (fun _ => rfl) (fun _ => rfl) (fun _ => rfl)) rfl ?_
      rintro ⟨v, b3⟩ ⟨q1, q2, q3⟩
      simp only at q1 q2 q3 ⊢
      have hwv : IntKind.i64.wrap (1 + v) = 1 + v := wrap_id (by omega)
      have hec : ∀ y k d : Int, encF ⟨(p : Int), 1 + v, y, k, d⟩ = [.int .i64 (p : Int), .int .i64 (IntKind.i64.wrap (1 + v)), .int .i64 y, .int .i64 k, .int .i64 d] := fun y k d => by rw [hwv]; rfl
      refine ww ?_
      refine AW_condL rfl (fun c3 => ?_) (fun c3 => ?_)
      · have c3' : p = 2 := by simp at c3; omega
        refine ww ?_
        refine AW_condL rfl (fun c4 => ?_) (fun c4 => ?_)
        · refine ww ?_
          refine AWk_opX (callX rfl rfl (hN b3 q3 32 (by omega) (by omega)) [0] (by decide) rfl rfl rfl rfl (fun _ => rfl) (fun _ => rfl) (fun _ => rfl)) rfl ?_
          rintro ⟨y, b4⟩ ⟨u1, u2, u3⟩
          simp only at u1 u2 u3 ⊢
          refine ww ?_
          refine AWk_op (append_rightL (i := 1) hT rfl rfl rfl rfl rfl rfl (by show ((encFs out).length + 1) * (40 + 1) ≤ _; first | omega | (simp only [encB_length, encNs_length, List.length_append, List.length_cons, List.length_nil]; omega))) rfl ?_
          refine ww ?_
          have hx := infs_snoc (x := ⟨(p : Int), 1 + v, y, 0, 0⟩) (R := fun z => z.proto < ((p + 1 : Nat) : Int)) h2 h3 (fun z hz => .inl hz) ⟨⟨by simp only; omega, by simp only; omega⟩, .inl ⟨by simp only; omega, ⟨u1, by simp only; omega⟩, rfl, rfl⟩⟩ (by simp only; omega) (fun z hz => by omega)
          exact fin b4 (out ++ [⟨(p : Int), 1 + v, y, 0, 0⟩]) _ [_] _ c1' u3 hx.1 hx.2 (by rw [List.length_append]; exact hlen1) (by rw [hmk, hec]) (.refl _) (.refl _) (.refl _)
        · exact absurd c3 (by rw [c4]; simp)
      have c3' : ¬ p = 2 := by simp at c3; omega
      refine ww ?_
      refine AW_condL rfl (fun c4 => ?_) (fun c4 => ?_)
      · have c4' : p = 3 := by simp at c4; omega
        refine ww ?_
        refine AWk_opX (callX rfl rfl (hN b3 q3 32 (by omega) (by omega)) [0] (by decide) rfl rfl rfl rfl (fun _ => rfl) (fun _ => rfl) (fun _ => rfl)) rfl ?_
        rintro ⟨y, b4⟩ ⟨u1, u2, u3⟩
        simp only at u1 u2 u3 ⊢
        refine ww ?_
        refine AWk_op (append_rightL (i := 1) hT rfl rfl rfl rfl rfl rfl (by show ((encFs out).length + 1) * (40 + 1) ≤ _; first | omega | (simp only [encB_length, encNs_length, List.length_append, List.length_cons, List.length_nil]; omega))) rfl ?_
        refine ww ?_
        have hx := infs_snoc (x := ⟨(p : Int), 1 + v, y, 0, 0⟩) (R := fun z => z.proto < ((p + 1 : Nat) : Int)) h2 h3 (fun z hz => .inl hz) ⟨⟨by simp only; omega, by simp only; omega⟩, .inl ⟨by simp only; omega, ⟨u1, by simp only; omega⟩, rfl, rfl⟩⟩ (by simp only; omega) (fun z hz => by omega)
        exact fin b4 (out ++ [⟨(p : Int), 1 + v, y, 0, 0⟩]) _ [_] _ c1' u3 hx.1 hx.2 (by rw [List.length_append]; exact hlen1) (by rw [hmk, hec]) (.refl _) (.refl _) (.refl _)
      have c4' : ¬ p = 3 := by simp at c4; omega
      refine ww ?_
      refine AW_condL rfl (fun c5 => ?_) (fun c5 => ?_)
      · have c5' : p = 4 := by simp at c5; omega
        subst c5'
        clear c3 c3' c4 c4' c5
        refine ww ?_
        refine AWk_opX (callX rfl rfl (hN b3 q3 3 (by omega) (by omega)) [0] (by decide) rfl rfl rfl rfl (fun _ => rfl) (fun _ => rfl) (fun _ => rfl)) rfl ?_
        rintro ⟨i0, b4⟩ ⟨u1, u2, u3⟩
        simp only at u1 u2 u3 ⊢
        obtain ⟨i0, rfl⟩ : ∃ i : Nat, i0 = (i : Int) := ⟨i0.toNat, by omega⟩
        refine ww ?_
        refine AW_loopL (ι := Nat × Nat × List Inf × Int × Int) (fun x => [(0, .ptr 0 0), (3, .sl 5 (encFs x.2.2.1) (.right 1)), (4, .d (.int .i64 ((4 : Nat) : Int))), (5, .ptr 2 0), (6, .d (.int .i64 (x.1 : Int)))])
          (fun x => [.row (diceR L x.2.1), .right 5 (encFs x.2.2.1).length, .row [.d (.int .i64 ((4 : Nat) : Int)), .d (.int .i64 (IntKind.i64.wrap (1 + v))), .d (.int .i64 0), .d (.int .i64 x.2.2.2.1), .d (.int .i64 x.2.2.2.2)]])
          (fun x => x.1 ≤ 3 ∧ x.2.1 ≤ L.length ∧ (∀ y, y ∈ x.2.2.1 → InfMade y ∧ (y.proto < 4 ∨ (y.proto = 4 ∧ y.kid < 40 * ((min x.1 2 : Nat) : Int)))) ∧ x.2.2.1.Pairwise InfB ∧ x.2.2.1.length ≤ 2 + min x.1 2 ∧ (x.1 = 3 → (∃ n, x.2.2.2.1 = pointG n) ∧ 80 ≤ x.2.2.2.2 ∧ x.2.2.2.2 ≤ 119))
          (fun x => 3 - x.1) (i0, b4, out, 0, 0) ⟨by simp only; omega, u3, fun y hy => ⟨(h2 y hy).1, .inl (h2 y hy).2⟩, h3, by simp at h4; simp only; omega, fun h => by simp only at h; omega⟩ ⟨.refl _, .refl _, .refl _, .refl _, .refl _, trivial⟩ (HLe.refl _) ?_
        rintro ⟨i, c, o, key, kid⟩ ⟨g1, g2, g3, g4, g5, g6⟩
        simp only at g1 g2 g3 g4 g5 g6 ⊢
        have hol := encFs_length o
        have hmko : ∀ x : Inf, encFs (o ++ [x]) = encFs o ++ [encF x] := fun x => by rw [encFs_append]; rfl
        have hwi : IntKind.i64.wrap ((i : Int) + 1) = ((i + 1 : Nat) : Int) := by rw [wrap_id (by omega)]; omega
        refine ww ?_
        refine AW_condL rfl (fun d1 => ?_) (fun d1 => ?_)
        · have d1' : i < 3 := by simp at d1; omega
          refine ww ?_
          refine AWk_opX (callX rfl rfl (hN c g2 1073741824 (by omega) (by omega)) [0] (by decide) rfl rfl rfl rfl (fun _ => rfl) (fun _ => rfl) (fun _ => rfl)) rfl ?_
          rintro ⟨m, c2⟩ ⟨v1, v2, v3⟩
          simp only at v1 v2 v3 ⊢
          have hP := Point_spec m
          refine ww ?_
          refine wwc hP ?_
          refine ww ?_
          refine AWk_opX (callX rfl rfl (hN c2 v3 40 (by omega) (by omega)) [0] (by decide) rfl rfl rfl rfl (fun _ => rfl) (fun _ => rfl) (fun _ => rfl)) rfl ?_
          rintro ⟨k, c3⟩ ⟨w1, w2, w3⟩
          simp only at w1 w2 w3 ⊢
          refine ww ?_
          have hkd : IntKind.i64.wrap (IntKind.i64.wrap (40 * (i : Int)) + k) = 40 * (i : Int) + k := by rw [wrap_id (n := 40 * (i : Int)) (by omega), wrap_id (by omega)]
          generalize IntKind.i64.wrap (IntKind.i64.wrap (40 * (i : Int)) + k) = kd at hkd ⊢
          refine AW_condL rfl (fun d2 => ?_) (fun d2 => ?_)
          · have d2' : i < 2 := by simp at d2; omega
            refine ww ?_
            refine AWk_op (append_rightL (i := 1) hT rfl rfl rfl rfl rfl rfl (by show ((encFs o).length + 1) * (40 + 1) ≤ _; first | omega | (simp only [encB_length, encNs_length, List.length_append, List.length_cons, List.length_nil]; omega))) rfl ?_
            refine ww ?_
            have hx := infs_snoc (x := ⟨((4 : Nat) : Int), 1 + v, 0, pointG m, kd⟩) (R := fun z => z.proto < 4 ∨ (z.proto = 4 ∧ z.kid < 40 * ((min (i + 1) 2 : Nat) : Int))) g3 g4 (fun z hz => by rcases hz with hz | hz; exact .inl hz; exact .inr ⟨hz.1, by have := hz.2; simp only; omega⟩) ⟨⟨by simp only; omega, by simp only; omega⟩, .inr (.inl ⟨rfl, rfl, ⟨by simp only; omega, by simp only; omega⟩, m, rfl⟩)⟩ (.inr ⟨rfl, by simp only; omega⟩) (fun z hz => by rcases hz with hz | hz; exact .inl hz; exact .inr ⟨hz.1, by omega⟩)
            exact ⟨(i + 1, c3, o ++ [⟨((4 : Nat) : Int), 1 + v, 0, pointG m, kd⟩], pointG m, kd), ⟨by simp only; omega, w3, hx.1, hx.2, by simp only [List.length_append, List.length_singleton]; omega, fun h => by simp only at h; omega⟩, by simp only; omega, ⟨.refl _, AV.le.eq (by rw [hmko, hec]; rfl), .refl _, .refl _, .int hwi, trivial⟩, ⟨ObLe.refl _, ⟨rfl, by rw [hmko, hec]⟩, ObLe.refl _, trivial⟩⟩
          · have d2' : i = 2 := by simp at d2; omega
            subst d2'
            refine ww ?_
            exact ⟨(3, c3, o, pointG m, kd), ⟨by simp, w3, g3, g4, g5, fun _ => ⟨⟨m, rfl⟩, by simp only; omega, by simp only; omega⟩⟩, by simp, ⟨.refl _, .refl _, .refl _, .refl _, .int hwi, trivial⟩, HLe.refl _⟩
        · have d1' : i = 3 := by simp at d1; omega
          subst d1'
          obtain ⟨⟨m, rfl⟩, k1, k2⟩ := g6 rfl
          refine ww ?_
          refine AWk_op (append_rightL (i := 1) hT rfl rfl rfl rfl rfl rfl (by show ((encFs o).length + 1) * (40 + 1) ≤ _; first | omega | (simp only [encB_length, encNs_length, List.length_append, List.length_cons, List.length_nil]; omega))) rfl ?_
          refine ww ?_
          have hx := infs_snoc (x := ⟨((4 : Nat) : Int), 1 + v, 0, pointG m, kid⟩) (R := fun z => z.proto < ((4 + 1 : Nat) : Int)) g3 g4 (fun z hz => by rcases hz with hz | hz; exact .inl hz; exact .inr ⟨hz.1, by have := hz.2; simp only; omega⟩) ⟨⟨by simp only; omega, by simp only; omega⟩, .inr (.inl ⟨rfl, rfl, ⟨by simp only; omega, by simp only; omega⟩, m, rfl⟩)⟩ (by simp only; omega) (fun z hz => by omega)
          exact fin c (o ++ [⟨((4 : Nat) : Int), 1 + v, 0, pointG m, kid⟩]) _ [_] _ c1' g2 hx.1 hx.2 (by rw [List.length_append]; simp at g5 ⊢; omega) (by rw [hmko, hec]) (.refl _) (.refl _) (.refl _)
      have c5' : ¬ p = 4 := by simp at c5; omega
      refine ww ?_
      refine AWk_op (append_rightL (i := 1) hT rfl rfl rfl rfl rfl rfl (by show ((encFs out).length + 1) * (40 + 1) ≤ _; first | omega | (simp only [encB_length, encNs_length, List.length_append, List.length_cons, List.length_nil]; omega))) rfl ?_
      refine ww ?_
      have hx := infs_snoc (x := ⟨(p : Int), 1 + v, 0, 0, 0⟩) (R := fun z => z.proto < ((p + 1 : Nat) : Int)) h2 h3 (fun z hz => .inl hz) ⟨⟨by simp only; omega, by simp only; omega⟩, .inr (.inr ⟨by simp only; omega, rfl, rfl, rfl⟩)⟩ (by simp only; omega) (fun z hz => by omega)
      exact fin b3 (out ++ [⟨(p : Int), 1 + v, 0, 0, 0⟩]) _ [_] _ c1' q3 hx.1 hx.2 (by rw [List.length_append]; exact hlen1) (by rw [hmk, hec]) (.refl _) (.refl _) (.refl _)
  · have c1' : p = 7 := by simp at c1; omega
    subst c1'
    refine ww ?_
    exact ret_q ⟨(out, b), ⟨⟨fun x hx => (h2 x hx).1, h3, ho7⟩, h1⟩, rfl, rfl⟩ rfl .dat rfl rfl rfl rfl
end Tdoc
/- The reference's file of a zone. -/
set_option linter.unusedVariables false
set_option linter.unusedSimpArgs false
namespace Tdoc
open Go Go.Proofs

theorem encSs_length (l : List (List UInt8)) : (encSs l).length = l.length := by simp [encSs]
theorem checkedS_le (s : List UInt8) : (checkedS s).length ≤ s.length + 1 := by unfold checkedS; rw [List.length_append]; have := digit_len s; omega
theorem wideS_le (s : List UInt8) (n : Nat) : (wideS s n).length ≤ s.length + n := by rw [wideS_length]; omega
theorem numberS_le (s : List UInt8) : (numberS s).1.length ≤ s.length + 20 ∧ (numberS s).2.length ≤ s.length + 2 := by
  unfold numberS
  split
  · have h1 := checkedS_le (wideS s 9)
    have h2 := wideS_le s 9
    exact ⟨by simp only; omega, by simp⟩
  · have := digit_len s
    refine ⟨?_, ?_⟩
    · show (s.take 9 ++ [60]).length ≤ _
      rw [List.length_append, List.length_take]; simp; omega
    · show (s.drop 9 ++ (digitF s).1 ++ [60]).length ≤ _
      rw [List.length_append, List.length_append, List.length_drop]; simp; omega
theorem buildZ_len {z : Zon} (hz : zLen z) : (buildZ z).flatten.length ≤ 200000 ∧ (buildZ z).length ≤ 3 := by
  obtain ⟨z1, z2, z3, z4, z5, z6, z7, z8, z9, z10, z11⟩ := hz
  have a1 := wideS_le z.kind 2
  have a2 := wideS_le z.state 3
  have a3 := checkedS_le z.bir
  have a4 := checkedS_le z.exp
  have a5 := wideS_le z.nat 3
  have a6 := numberS_le z.num
  have a7 := wideS_le ((numberS z.num).2 ++ z.opt) 15
  have a8 := wideS_le ((numberS z.num).2 ++ z.opt) 7
  have a9 := wideS_le z.opt 14
  have a10 := wideS_le z.sec 11
  have a11 : (namesF z.sur z.giv (nameW z.fmt)).1.length ≤ 39 := by
    have := names_len z.sur z.giv (nameW z.fmt)
    have hw : nameW z.fmt ≤ 39 := by unfold nameW; split <;> (try split) <;> omega
    omega
  rw [List.length_append] at a7 a8
  unfold buildZ
  split
  · refine ⟨?_, by simp⟩
    have d1 := fun s => digit_len s
    simp only [List.flatten_cons, List.flatten_nil, List.length_append, List.length_nil]
    have := d1 (cutS (wideS z.kind 2 ++ wideS z.state 3 ++ (numberS z.num).1 ++ wideS ((numberS z.num).2 ++ z.opt) 15) 5 30 ++ cutS (checkedS z.bir ++ z.sex ++ checkedS z.exp ++ wideS z.nat 3 ++ wideS z.sec 11) 0 7 ++ cutS (checkedS z.bir ++ z.sex ++ checkedS z.exp ++ wideS z.nat 3 ++ wideS z.sec 11) 8 15 ++ cutS (checkedS z.bir ++ z.sex ++ checkedS z.exp ++ wideS z.nat 3 ++ wideS z.sec 11) 18 29)
    omega
  · split
    · refine ⟨?_, by simp⟩
      simp only [List.flatten_cons, List.flatten_nil, List.length_append, List.length_nil]
      have := digit_len (cutS ((numberS z.num).1 ++ wideS z.nat 3 ++ checkedS z.bir ++ z.sex ++ checkedS z.exp ++ wideS ((numberS z.num).2 ++ z.opt) 7) 0 10 ++ cutS ((numberS z.num).1 ++ wideS z.nat 3 ++ checkedS z.bir ++ z.sex ++ checkedS z.exp ++ wideS ((numberS z.num).2 ++ z.opt) 7) 13 20 ++ cutS ((numberS z.num).1 ++ wideS z.nat 3 ++ checkedS z.bir ++ z.sex ++ checkedS z.exp ++ wideS ((numberS z.num).2 ++ z.opt) 7) 21 35)
      omega
    · have ho : (if z.opt = [] then [60] else (digitF (wideS z.opt 14)).1).length ≤ 1 := by
        split
        · simp
        · exact digit_len _
      refine ⟨?_, by simp⟩
      generalize (if z.opt = [] then [60] else (digitF (wideS z.opt 14)).1) = o at ho ⊢
      simp only [List.flatten_cons, List.flatten_nil, List.length_append, List.length_nil]
      have := digit_len (cutS ((numberS z.num).1 ++ wideS z.nat 3 ++ checkedS z.bir ++ z.sex ++ checkedS z.exp ++ wideS z.opt 14 ++ o) 0 10 ++ cutS ((numberS z.num).1 ++ wideS z.nat 3 ++ checkedS z.bir ++ z.sex ++ checkedS z.exp ++ wideS z.opt 14 ++ o) 13 20 ++ cutS ((numberS z.num).1 ++ wideS z.nat 3 ++ checkedS z.bir ++ z.sex ++ checkedS z.exp ++ wideS z.opt 14 ++ o) 21 43)
      omega

set_option maxHeartbeats 8000000 in
set_option maxRecDepth 100000 in
theorem ZoneR_spec (z : Zon) (hz : zLen z) : Spec Tryz.prog 27 [zAV z] [] (fun r h' => r = .tup [.d (.sl 1 (encB (zoneF z).1)), .d (.int .i64 (zoneF z).2)] ∧ h' = []) := by
  have hb := Build_spec z hz
  unfold zoneF
  by_cases h0 : validZ z = 0
  case neg =>
    have hbe : buildF z = ([], validZ z) := by unfold buildF; rw [if_pos h0]
    rw [if_pos h0]
    rw [hbe] at hb
    generalize validZ z = e at hb h0
    obtain ⟨fmt, kind, state, sur, giv, num, nat, bir, sex, exp, opt, sec⟩ := z
    unfold zAV zCells at hb ⊢
    simp only at hb ⊢
    refine Spec_of_body hT Tryz.func27 rfl rfl rfl rfl ?_; intro E hE
    refine AW_room ?_
    refine AW_seq (AW_region ?_)
    refine AWk_op (boxAt_ok (i0 := 0) rfl rfl rfl) rfl ?_
    refine ww ?_
    refine wwc hb ?_
    refine ww ?_
    refine AW_condL rfl (fun c1 => ?_) (fun c1 => ?_)
    · refine ww ?_
      exact wwr
    · exact absurd (by simpa using c1) h0
  have hbe : buildF z = (buildZ z, 0) := by unfold buildF; rw [if_neg (by simp [h0])]
  obtain ⟨hl1, hl2⟩ := buildZ_len hz
  rw [if_neg (by simp [h0])]
  rw [hbe] at hb
  generalize buildZ z = ls at hb hl1 hl2
  have hll := encSs_length ls
  have hp := PrimB_spec 24351 ls.flatten (by omega)
  have hw := WrapR_spec 1 (by omega) [.mk 24351 ls.flatten []] (by simp) ⟨⟨by omega, by omega, by simp, trivial⟩, trivial⟩ (by simp [sizeL, sizeN])
  generalize wrapG 1 [.mk 24351 ls.flatten []] = w at hw
  obtain ⟨w, we⟩ := w
  simp only at hw ⊢
  obtain ⟨fmt, kind, state, sur, giv, num, nat, bir, sex, exp, opt, sec⟩ := z
  unfold zAV zCells at hb ⊢
  simp only at hb ⊢
  refine Spec_of_body hT Tryz.func27 rfl rfl rfl rfl ?_; intro E hE
  refine AW_room ?_
  refine AW_seq (AW_region ?_)
  refine AWk_op (boxAt_ok (i0 := 0) rfl rfl rfl) rfl ?_
  refine ww ?_
  refine wwc hb ?_
  refine ww ?_
  refine AW_condL rfl (fun c1 => ?_) (fun c1 => ?_)
  · exact absurd c1 (by simp)
  refine ww ?_
  refine AW_loopL (ι := Nat) (fun i => [(4, .d (.sl 1 (encSs ls))), (6, .d (.str (ls.take i).flatten)), (7, .d (.int .i64 (i : Int)))]) (fun _ => [.row [.d (.int .i64 fmt), .d (.str kind), .d (.str state), .d (.str sur), .d (.str giv), .d (.str num), .d (.str nat), .d (.str bir), .d (.str sex), .d (.str exp), .d (.str opt), .d (.str sec)]]) (fun i => i ≤ ls.length) (fun i => ls.length - i) 0 (by omega) ⟨.refl _, .refl _, .refl _, trivial⟩ (HLe.refl _) ?_
  intro i hi
  have hwr : IntKind.i64.wrap ((i : Int) + 1) = ((i + 1 : Nat) : Int) := by rw [wrap_id (by omega)]; simp
  refine ww ?_
  refine AW_condL rfl (fun c2 => ?_) (fun c2 => ?_)
  · have c2' : i < ls.length := by rw [hll] at c2; simpa using c2
    have hel : (encSs ls)[((i : Int)).toNat]? = some [.str ls[i]] := by simp [encSs, c2']
    have htk : (ls.take (i + 1)).flatten = (ls.take i).flatten ++ ls[i] := by rw [List.take_succ_eq_append_getElem c2', List.flatten_append, List.flatten_cons, List.flatten_nil, List.append_nil]
    have hle : (ls.take i).flatten.length + (ls[i]).length ≤ 200000 := by
      have h2 : ls.flatten = (ls.take (i + 1)).flatten ++ (ls.drop (i + 1)).flatten := by rw [← List.flatten_append, List.take_append_drop]
      rw [h2, htk, List.length_append, List.length_append] at hl1
      omega
    generalize ls[i] = x at hel htk hle
    refine ww ?_
    refine wwi hel ?_
    refine ww ?_
    exact ⟨i + 1, by omega, by omega, ⟨.refl _, AV.le.eq (by rw [htk]; rfl), .int hwr, trivial⟩, HLe.refl _⟩
  · have c2' : i = ls.length := by rw [hll] at c2; simp at c2; omega
    subst c2'
    rw [List.take_length]
    refine ww ?_
    refine AWk_op (strBytes_ok (s := ls.flatten) hT rfl rfl rfl) rfl ?_
    refine ww ?_
    refine wwc hp ?_
    refine ww ?_
    refine wwc hw ?_
    refine ww ?_
    exact wwr
end Tdoc
/- Dice: a zone. -/
set_option linter.unusedVariables false
set_option linter.unusedSimpArgs false
namespace Tdoc
open Go Go.Proofs

def kindT : List (List UInt8) := [[80], [73, 68], [86], [65, 67]]
def stateT : List (List UInt8) := [[85, 84, 79], [68], [88, 88], [65, 66, 67]]
def birT : List (List UInt8) := [[60, 60, 60, 60, 60, 60], [56, 53, 60, 60, 60, 60], [56, 53, 49, 50, 60, 60], [60, 60, 48, 49, 51, 49], [48, 48, 48, 50, 60, 60]]
def sexT : List (List UInt8) := [[77], [70], [60]]
def BirM (s : List UInt8) : Prop := (∃ d, (0 ≤ d ∧ d ≤ 73048) ∧ FormatP d s) ∨ s ∈ birT
/-- A zone that is made of numbers. -/
structure ZMade (z : Zon) : Prop where
  fmt : 1 ≤ z.fmt ∧ z.fmt ≤ 3
  kind : z.kind ∈ kindT
  state : z.state ∈ stateT
  nat : z.nat ∈ stateT
  sur : NameM 2 z.sur ∧ z.sur ≠ []
  giv : NameM 3 z.giv
  num : SignM (mostN z.fmt).toNat z.num
  bir : BirM z.bir
  sex : z.sex ∈ sexT
  exp : ∃ d, (36524 ≤ d ∧ d ≤ 73048) ∧ FormatP d z.exp
  opt : z.opt = [] ∨ (0 < roomF z ∧ SignM (roomF z).toNat z.opt)
  sec : z.sec = [] ∨ (z.fmt = 1 ∧ SignM 11 z.sec)
theorem FormatP.len {d : Int} {s : List UInt8} (h : FormatP d s) : s.length = 6 := by obtain ⟨x, _, rfl⟩ := h; rfl
theorem BirM.len {s : List UInt8} (h : BirM s) : s.length = 6 := by
  rcases h with ⟨d, _, h⟩ | h
  · exact h.len
  · revert s; decide
theorem mem_at {T : List (List UInt8)} {x : Int} (h1 : 0 ≤ x) (h2 : x < (T.length : Int)) : ∃ w, (T.map fun s => [Dat.str s])[x.toNat]? = some [.str w] ∧ w ∈ T := by
  have hl : x.toNat < T.length := by omega
  exact ⟨T[x.toNat], by simp [hl], List.getElem_mem hl⟩
theorem len3 {T : List (List UInt8)} (hT : ∀ s, s ∈ T → s.length ≤ 100) {w : List UInt8} (h : w ∈ T) : w.length ≤ 100 := hT w h
theorem ZMade.len {z : Zon} (h : ZMade z) : zLen z := by
  have m1 : mostN z.fmt ≤ 20 := by unfold mostN; split <;> (try split) <;> omega
  have m2 : roomF z ≤ 15 := by unfold roomF; split <;> (try split) <;> (try split) <;> omega
  have k1 : ∀ s, s ∈ kindT → s.length ≤ 100 := by decide
  have k2 : ∀ s, s ∈ stateT → s.length ≤ 100 := by decide
  have k3 : ∀ s, s ∈ sexT → s.length ≤ 100 := by decide
  have a1 := k1 _ h.kind
  have a2 := k2 _ h.state
  have a3 := k2 _ h.nat
  have a4 := h.sur.1.2
  have a5 := h.giv.2
  have a6 := h.num.2.2
  have a7 := h.bir.len
  have a8 := k3 _ h.sex
  obtain ⟨d, _, hd⟩ := h.exp
  have a9 := hd.len
  have a10 : z.opt.length ≤ 100 := by
    rcases h.opt with h | ⟨_, h⟩
    · rw [h]; simp
    · have := h.2.2; omega
  have a11 : z.sec.length ≤ 100 := by
    rcases h.sec with h | ⟨_, h⟩
    · rw [h]; simp
    · have := h.2.2; omega
  refine ⟨?_, ?_, ?_, ?_, ?_, ?_, ?_, ?_, ?_, ?_, ?_⟩ <;> omega

def DZoneP (L : List Int) (x : Zon × Nat) : Prop := ZMade x.1 ∧ x.2 ≤ L.length
def Z0 : List AV := [.d (.int .i64 0), .d (.str []), .d (.str []), .d (.str []), .d (.str []), .d (.str []), .d (.str []), .d (.str []), .d (.str []), .d (.str []), .d (.str []), .d (.str [])]

set_option maxHeartbeats 8000000 in
set_option maxRecDepth 100000 in
theorem DZone_spec (L : List Int) (hL : L.length ≤ 1000000) (a : Nat) (ha : a ≤ L.length) :
    Spec Tryz.prog 17 [.ptr 0 0] [.row (diceR L a)] (fun r h' => ∃ x, DZoneP L x ∧ r = zAV x.1 ∧ h' = [.row (diceR L x.2)]) := by
  have hN := fun a ha n h1 hn => Next_spec L hL a ha n h1 hn
  have hO := fun a ha n h1 hn => One_spec L hL a ha n h1 hn
  have hNm := fun a ha w hw => DName_spec L hL a ha w hw
  have hSg := fun a ha n h1 hn => DSigns_spec L hL a ha n h1 hn
  have hDy := fun a ha => DDay_spec L hL a ha
  refine Spec_of_body hT Tryz.func17 rfl rfl rfl rfl ?_; intro E hE
  refine ww ?_
  refine AWk_opX (callX rfl rfl (hN a ha 3 (by omega) (by omega)) [0] (by decide) rfl rfl rfl rfl (fun _ => rfl) (fun _ => rfl) (fun _ => rfl)) rfl ?_
  rintro ⟨f, a1⟩ ⟨p1, p2, p3⟩
  simp only at p1 p2 p3 ⊢
  have hwf : IntKind.i64.wrap (1 + f) = 1 + f := wrap_id (by omega)
  refine ww ?_
  refine AWk_opX (callX rfl rfl (hN a1 p3 4 (by omega) (by omega)) [0] (by decide) rfl rfl rfl rfl (fun _ => rfl) (fun _ => rfl) (fun _ => rfl)) rfl ?_
  rintro ⟨k, a2⟩ ⟨q1, q2, q3⟩
  simp only at q1 q2 q3 ⊢
  generalize IntKind.i64.wrap (1 + f) = fm at hwf ⊢
  have hfm : 1 ≤ fm ∧ fm ≤ 3 := by omega
  clear hwf p1 p2
  obtain ⟨kind, kat, kme⟩ := mem_at (T := kindT) q1 q2
  refine ww ?_
  refine wwi kat ?_
  refine ww ?_
  refine AWk_opX (callX rfl rfl (hN a2 q3 4 (by omega) (by omega)) [0] (by decide) rfl rfl rfl rfl (fun _ => rfl) (fun _ => rfl) (fun _ => rfl)) rfl ?_
  rintro ⟨s, a3⟩ ⟨r1, r2, r3⟩
  simp only at r1 r2 r3 ⊢
  obtain ⟨state, sat, sme⟩ := mem_at (T := stateT) r1 r2
  refine ww ?_
  refine wwi sat ?_
  refine ww ?_
  refine AWk_opX (callX rfl rfl (hN a3 r3 4 (by omega) (by omega)) [0] (by decide) rfl rfl rfl rfl (fun _ => rfl) (fun _ => rfl) (fun _ => rfl)) rfl ?_
  rintro ⟨n, a4⟩ ⟨s1, s2, s3⟩
  simp only at s1 s2 s3 ⊢
  obtain ⟨nat, nat_at, nme⟩ := mem_at (T := stateT) s1 s2
  refine ww ?_
  refine wwi nat_at ?_
  refine ww ?_
  refine AWk_opX (callX rfl rfl (hNm a4 s3 2 (by omega)) [0] (by decide) rfl rfl rfl rfl (fun _ => rfl) (fun _ => rfl) (fun _ => rfl)) rfl ?_
  rintro ⟨sur0, a5⟩ ⟨t1, t2⟩
  simp only at t1 t2 ⊢
  refine ww ?_
  refine AWk_opX (callX rfl rfl (hNm a5 t2 3 (by omega)) [0] (by decide) rfl rfl rfl rfl (fun _ => rfl) (fun _ => rfl) (fun _ => rfl)) rfl ?_
  rintro ⟨giv, a6⟩ ⟨u1, u2⟩
  simp only at u1 u2 ⊢
  refine wws ?_
  refine AW_seq_cut (ι := List UInt8) (fun sur => [(0, .ptr 0 0), (2, .ptr 1 0), (3, .ptr 2 0)])
    (fun sur => [.row (diceR L a6), .row Z0, .row [.d (.int .i64 fm), .d (.str kind), .d (.str state), .d (.str sur), .d (.str giv), .d (.str []), .d (.str nat), .d (.str []), .d (.str []), .d (.str []), .d (.str []), .d (.str [])]]) (fun sur => NameM 2 sur ∧ sur ≠ []) ?_ ?_
  · refine ww ?_
    refine AW_condL rfl (fun c1 => ?_) (fun c1 => ?_)
    · refine ww ?_
      exact ⟨[79, 75], ⟨⟨rfl, by simp⟩, by simp⟩, ⟨.refl _, .refl _, .refl _, trivial⟩, HLe.refl _⟩
    · have c1' : ¬ sur0 = [] := by simpa using c1
      refine ww ?_
      exact ⟨sur0, ⟨t1, c1'⟩, ⟨.refl _, .refl _, .refl _, trivial⟩, HLe.refl _⟩
  rintro sur ⟨x1, x2⟩
  clear t1
  refine wwe ?_
  refine AW_seq (AW_region ?_)
  refine wws ?_
  refine AW_seq_cut (ι := Nat × Nat) (fun x => [(0, .ptr 0 0), (2, .ptr 1 0), (3, .ptr 2 0), (4, .d (.int .i64 (x.1 : Int)))]) (fun x => [.row (diceR L x.2), .row Z0, .row [.d (.int .i64 fm), .d (.str kind), .d (.str state), .d (.str sur), .d (.str giv), .d (.str []), .d (.str nat), .d (.str []), .d (.str []), .d (.str []), .d (.str []), .d (.str [])]]) (fun x => (x.1 = 9 ∨ (x.1 = 14 ∧ fm = 2)) ∧ x.2 ≤ L.length) ?_ ?_
  · refine ww ?_
    refine AWk_gopX (.d (.bool false)) rfl rfl rfl (fun hg => ⟨by first | exact True.intro | exact ⟨hg, True.intro⟩ | exact ⟨hg, hg, True.intro⟩, callX rfl rfl (hO a6 u2 3 (by omega) (by omega)) [0] (by decide) rfl rfl rfl rfl (fun _ => rfl) (fun _ => rfl) (fun _ => rfl)⟩) ?_ ?_
    · rintro hg ⟨fl, b⟩ y1
      simp only at y1 ⊢
      have hg' : fm = 2 := by simp [gval] at hg; omega
      refine ww ?_
      refine AW_condL rfl (fun c2 => ?_) (fun c2 => ?_)
      · refine ww ?_
        exact ⟨(14, b), ⟨.inr ⟨rfl, hg'⟩, y1⟩, ⟨.refl _, .refl _, .refl _, .refl _, trivial⟩, HLe.refl _⟩
      · refine ww ?_
        exact ⟨(9, b), ⟨.inl rfl, y1⟩, ⟨.refl _, .refl _, .refl _, .refl _, trivial⟩, HLe.refl _⟩
    · intro hg
      refine AWk_step hT rfl rfl (by intro hh; simp [gval] at hg; simp at hh; omega) ?_
      refine ww ?_
      refine AW_condL rfl (fun c2 => ?_) (fun c2 => ?_)
      · exact absurd c2 (by simp)
      · refine ww ?_
        exact ⟨(9, a6), ⟨.inl rfl, u2⟩, ⟨.refl _, .refl _, .refl _, .refl _, trivial⟩, HLe.refl _⟩
  rintro ⟨m1, a7⟩ ⟨v1, v2⟩
  simp only at v1 v2 ⊢
  refine AW_seq_cut (ι := Nat × Nat) (fun x => [(0, .ptr 0 0), (2, .ptr 1 0), (3, .ptr 2 0), (4, .d (.int .i64 (x.1 : Int)))]) (fun x => [.row (diceR L x.2), .row Z0, .row [.d (.int .i64 fm), .d (.str kind), .d (.str state), .d (.str sur), .d (.str giv), .d (.str []), .d (.str nat), .d (.str []), .d (.str []), .d (.str []), .d (.str []), .d (.str [])]]) (fun x => (9 ≤ x.1 ∧ x.1 ≤ (mostN fm).toNat) ∧ x.2 ≤ L.length) ?_ ?_
  · have hm1 : 9 ≤ m1 ∧ m1 ≤ (mostN fm).toNat := by unfold mostN; split <;> (try split) <;> omega
    refine ww ?_
    refine AWk_gopX (.d (.bool false)) rfl rfl rfl (fun hg => ⟨by first | exact True.intro | exact ⟨hg, True.intro⟩ | exact ⟨hg, hg, True.intro⟩, callX rfl rfl (hO a7 v2 3 (by omega) (by omega)) [0] (by decide) rfl rfl rfl rfl (fun _ => rfl) (fun _ => rfl) (fun _ => rfl)⟩) ?_ ?_
    · rintro hg ⟨fl, b⟩ y1
      simp only at y1 ⊢
      have hg' : fm = 1 := by simp [gval] at hg; omega
      refine ww ?_
      refine AW_condL rfl (fun c2 => ?_) (fun c2 => ?_)
      · refine ww ?_
        exact ⟨(20, b), ⟨⟨by simp, by unfold mostN; rw [if_pos hg']; simp⟩, y1⟩, ⟨.refl _, .refl _, .refl _, .refl _, trivial⟩, HLe.refl _⟩
      · refine ww ?_
        exact ⟨(m1, b), ⟨hm1, y1⟩, ⟨.refl _, .refl _, .refl _, .refl _, trivial⟩, HLe.refl _⟩
    · intro hg
      refine AWk_step hT rfl rfl (by intro hh; simp [gval] at hg; simp at hh; omega) ?_
      refine ww ?_
      refine AW_condL rfl (fun c2 => ?_) (fun c2 => ?_)
      · exact absurd c2 (by simp)
      · refine ww ?_
        exact ⟨(m1, a7), ⟨hm1, v2⟩, ⟨.refl _, .refl _, .refl _, .refl _, trivial⟩, HLe.refl _⟩
  rintro ⟨m, a8⟩ ⟨w1, w2⟩
  simp only at w1 w2 ⊢
  clear v1 v2
  have hmost : (mostN fm).toNat ≤ 20 := by unfold mostN; split <;> (try split) <;> omega
  refine ww ?_
  refine AWk_opX (callX rfl rfl (hSg a8 w2 m (by omega) (by omega)) [0] (by decide) rfl rfl rfl rfl (fun _ => rfl) (fun _ => rfl) (fun _ => rfl)) rfl ?_
  rintro ⟨num, a9⟩ ⟨y1, y2⟩
  simp only at y1 y2 ⊢
  have hnl := y1.2.2
  have hnum : SignM (mostN fm).toNat num := ⟨y1.1, y1.2.1, by omega⟩
  refine ww ?_
  refine AWk_opX (callX rfl rfl (hDy a9 y2) [0] (by decide) rfl rfl rfl rfl (fun _ => rfl) (fun _ => rfl) (fun _ => rfl)) rfl ?_
  rintro ⟨day, a10⟩ ⟨z1, z2, z3⟩
  simp only at z1 z2 z3 ⊢
  have hF := FormatD_spec day ⟨z1, by omega⟩
  refine ww ?_
  refine wwx hF ?_
  rintro bir0 hb0
  refine wws ?_
  refine AW_seq (AW_region ?_)
  refine wws ?_
  refine AW_seq_cut (ι := List UInt8 × Nat) (fun x => [(0, .ptr 0 0), (2, .ptr 1 0), (3, .ptr 2 0)])
    (fun x => [.row (diceR L x.2), .row Z0, .row [.d (.int .i64 fm), .d (.str kind), .d (.str state), .d (.str sur), .d (.str giv), .d (.str num), .d (.str nat), .d (.str x.1), .d (.str []), .d (.str []), .d (.str []), .d (.str [])]]) (fun x => BirM x.1 ∧ x.2 ≤ L.length) ?_ ?_
  · refine ww ?_
    refine AWk_opX (callX rfl rfl (hO a10 z3 5 (by omega) (by omega)) [0] (by decide) rfl rfl rfl rfl (fun _ => rfl) (fun _ => rfl) (fun _ => rfl)) rfl ?_
    rintro ⟨fl, b⟩ e1
    simp only at e1 ⊢
    refine ww ?_
    refine AW_condL rfl (fun c2 => ?_) (fun c2 => ?_)
    · refine ww ?_
      refine AWk_opX (callX rfl rfl (hN b e1 5 (by omega) (by omega)) [0] (by decide) rfl rfl rfl rfl (fun _ => rfl) (fun _ => rfl) (fun _ => rfl)) rfl ?_
      rintro ⟨j, b2⟩ ⟨e2, e3, e4⟩
      simp only at e2 e3 e4 ⊢
      obtain ⟨bir, bat, bme⟩ := mem_at (T := birT) e2 e3
      refine ww ?_
      refine wwi bat ?_
      refine ww ?_
      exact ⟨(bir, b2), ⟨.inr bme, e4⟩, ⟨.refl _, .refl _, .refl _, trivial⟩, HLe.refl _⟩
    · refine ww ?_
      exact ⟨(bir0, b), ⟨.inl ⟨day, ⟨z1, by omega⟩, hb0⟩, e1⟩, ⟨.refl _, .refl _, .refl _, trivial⟩, HLe.refl _⟩
  rintro ⟨bir, a11⟩ ⟨b1, b2⟩
  simp only at b1 b2 ⊢
  clear hb0
  refine ww ?_
  refine AWk_opX (callX rfl rfl (hN a11 b2 3 (by omega) (by omega)) [0] (by decide) rfl rfl rfl rfl (fun _ => rfl) (fun _ => rfl) (fun _ => rfl)) rfl ?_
  rintro ⟨j, a12⟩ ⟨e2, e3, e4⟩
  simp only at e2 e3 e4 ⊢
  obtain ⟨sex, sxat, sxme⟩ := mem_at (T := sexT) e2 e3
  refine ww ?_
  refine wwi sxat ?_
  refine ww ?_
  refine AWk_opX (callX rfl rfl (hN a12 e4 36000 (by omega) (by omega)) [0] (by decide) rfl rfl rfl rfl (fun _ => rfl) (fun _ => rfl) (fun _ => rfl)) rfl ?_
  rintro ⟨dd, a13⟩ ⟨i1, i2, i3⟩
  simp only at i1 i2 i3 ⊢
  have hwd : IntKind.i64.wrap (36524 + dd) = 36524 + dd := wrap_id (by omega)
  have hF2 := FormatD_spec (36524 + dd) ⟨by omega, by omega⟩
  rw [← hwd] at hF2
  refine ww ?_
  refine wwx hF2 ?_
  rintro exp hex
  rw [hwd] at hex
  refine ww ?_
  have har : ([.d (.int .i64 0), .d (.int .i64 15), .d (.int .i64 7), .d (.int .i64 14)] : List AV)[fm.toNat]? = some (.d (.int .i64 (if fm = 1 then 15 else if fm = 2 then 7 else 14))) := by
    have : fm = 1 ∨ fm = 2 ∨ fm = 3 := by omega
    rcases this with rfl | rfl | rfl <;> rfl
  have hm0 : (if fm = 1 then 15 else if fm = 2 then 7 else 14 : Int) ≤ 15 := by split <;> (try split) <;> omega
  have hm1 : 7 ≤ (if fm = 1 then 15 else if fm = 2 then 7 else 14 : Int) := by split <;> (try split) <;> omega
  generalize hrd : (if fm = 1 then 15 else if fm = 2 then 7 else 14 : Int) = w0 at har hm0 hm1
  refine AWk_op (OpS_of_pure (arrIdx_ok hT rfl rfl rfl rfl (by show 0 ≤ fm ∧ fm < 4; omega) har)) rfl ?_
  refine wws ?_
  generalize hroom : w0 - (if num.length > 9 then (num.length : Int) - 9 + 2 else 0) = room
  have hrm : -20 ≤ room ∧ room ≤ 15 := by rw [← hroom]; split <;> omega
  refine AW_seq_cut (ι := Unit) (fun _ => [(0, .ptr 0 0), (2, .ptr 1 0), (3, .ptr 2 0), (7, .d (.int .i64 room))])
    (fun x => [.row (diceR L a13), .row Z0, .row [.d (.int .i64 fm), .d (.str kind), .d (.str state), .d (.str sur), .d (.str giv), .d (.str num), .d (.str nat), .d (.str bir), .d (.str sex), .d (.str exp), .d (.str []), .d (.str [])]]) (fun _ => True) ?_ (fun _ _ => ?_)
  · refine ww ?_
    refine AW_condL rfl (fun c2 => ?_) (fun c2 => ?_)
    · have c2' : num.length > 9 := by simp at c2; omega
      rw [if_pos c2'] at hroom
      have hwr : IntKind.i64.wrap (w0 - IntKind.i64.wrap ((num.length : Int) - 7)) = room := by rw [wrap_id (n := (num.length : Int) - 7) (by omega), wrap_id (by omega)]; omega
      refine ww ?_
      exact ⟨(), trivial, ⟨.refl _, .refl _, .refl _, .int hwr, trivial⟩, HLe.refl _⟩
    · have c2' : ¬ num.length > 9 := by simp at c2; omega
      rw [if_neg c2'] at hroom
      have hwr : w0 = room := by omega
      refine ww ?_
      exact ⟨(), trivial, ⟨.refl _, .refl _, .refl _, .int hwr, trivial⟩, HLe.refl _⟩
  refine AW_seq_cut (ι := List UInt8 × Nat) (fun x => [(0, .ptr 0 0), (2, .ptr 1 0), (3, .ptr 2 0)])
    (fun x => [.row (diceR L x.2), .row Z0, .row [.d (.int .i64 fm), .d (.str kind), .d (.str state), .d (.str sur), .d (.str giv), .d (.str num), .d (.str nat), .d (.str bir), .d (.str sex), .d (.str exp), .d (.str x.1), .d (.str [])]]) (fun x => (x.1 = [] ∨ (0 < room ∧ SignM room.toNat x.1)) ∧ x.2 ≤ L.length) ?_ ?_
  · refine ww ?_
    refine AWk_gopX (.d (.bool false)) rfl rfl rfl (fun hg => ⟨by first | exact True.intro | exact ⟨hg, True.intro⟩ | exact ⟨hg, hg, True.intro⟩, callX rfl rfl (hO a13 i3 2 (by omega) (by omega)) [0] (by decide) rfl rfl rfl rfl (fun _ => rfl) (fun _ => rfl) (fun _ => rfl)⟩) ?_ ?_
    · rintro hg ⟨fl, b⟩ e1
      simp only at e1 ⊢
      have hg' : 0 < room := by simp [gval] at hg; omega
      refine ww ?_
      refine AW_condL rfl (fun c2 => ?_) (fun c2 => ?_)
      · have hsg := hSg b e1 room.toNat (by omega) (by omega)
        rw [Int.toNat_of_nonneg (by omega)] at hsg
        refine ww ?_
        refine AWk_opX (callX rfl rfl (hsg) [0] (by decide) rfl rfl rfl rfl (fun _ => rfl) (fun _ => rfl) (fun _ => rfl)) rfl ?_
        rintro ⟨opt, b2⟩ ⟨e2, e3⟩
        simp only at e2 e3 ⊢
        refine ww ?_
        exact ⟨(opt, b2), ⟨.inr ⟨hg', e2⟩, e3⟩, ⟨.refl _, .refl _, .refl _, trivial⟩, HLe.refl _⟩
      · refine ww ?_
        exact ⟨([], b), ⟨.inl rfl, e1⟩, ⟨.refl _, .refl _, .refl _, trivial⟩, HLe.refl _⟩
    · intro hg
      refine AWk_step hT rfl rfl (by intro hh; simp [gval] at hg; simp at hh; omega) ?_
      refine ww ?_
      refine AW_condL rfl (fun c2 => ?_) (fun c2 => ?_)
      · exact absurd c2 (by simp)
      · refine ww ?_
        exact ⟨([], a13), ⟨.inl rfl, i3⟩, ⟨.refl _, .refl _, .refl _, trivial⟩, HLe.refl _⟩
  rintro ⟨opt, a14⟩ ⟨j1, j2⟩
  simp only at j1 j2 ⊢
  refine AW_seq_cut (ι := List UInt8 × Nat) (fun x => [(0, .ptr 0 0), (2, .ptr 1 0), (3, .ptr 2 0)])
    (fun x => [.row (diceR L x.2), .row Z0, .row [.d (.int .i64 fm), .d (.str kind), .d (.str state), .d (.str sur), .d (.str giv), .d (.str num), .d (.str nat), .d (.str bir), .d (.str sex), .d (.str exp), .d (.str opt), .d (.str x.1)]]) (fun x => (x.1 = [] ∨ (fm = 1 ∧ SignM 11 x.1)) ∧ x.2 ≤ L.length) ?_ ?_
  · refine ww ?_
    refine AWk_gopX (.d (.bool false)) rfl rfl rfl (fun hg => ⟨by first | exact True.intro | exact ⟨hg, True.intro⟩ | exact ⟨hg, hg, True.intro⟩, callX rfl rfl (hO a14 j2 3 (by omega) (by omega)) [0] (by decide) rfl rfl rfl rfl (fun _ => rfl) (fun _ => rfl) (fun _ => rfl)⟩) ?_ ?_
    · rintro hg ⟨fl, b⟩ e1
      simp only at e1 ⊢
      have hg' : fm = 1 := by simp [gval] at hg; omega
      refine ww ?_
      refine AW_condL rfl (fun c2 => ?_) (fun c2 => ?_)
      · refine ww ?_
        refine AWk_opX (callX rfl rfl (hSg b e1 11 (by omega) (by omega)) [0] (by decide) rfl rfl rfl rfl (fun _ => rfl) (fun _ => rfl) (fun _ => rfl)) rfl ?_
        rintro ⟨sec, b2⟩ ⟨e2, e3⟩
        simp only at e2 e3 ⊢
        refine ww ?_
        exact ⟨(sec, b2), ⟨.inr ⟨hg', e2⟩, e3⟩, ⟨.refl _, .refl _, .refl _, trivial⟩, HLe.refl _⟩
      · refine ww ?_
        exact ⟨([], b), ⟨.inl rfl, e1⟩, ⟨.refl _, .refl _, .refl _, trivial⟩, HLe.refl _⟩
    · intro hg
      refine AWk_step hT rfl rfl (by intro hh; simp [gval] at hg; simp at hh; omega) ?_
      refine ww ?_
      refine AW_condL rfl (fun c2 => ?_) (fun c2 => ?_)
      · exact absurd c2 (by simp)
      · refine ww ?_
        exact ⟨([], a14), ⟨.inl rfl, j2⟩, ⟨.refl _, .refl _, .refl _, trivial⟩, HLe.refl _⟩
  rintro ⟨sec, a15⟩ ⟨k1, k2⟩
  simp only at k1 k2 ⊢
  have hrf : roomF ⟨fm, kind, state, sur, giv, num, nat, bir, sex, exp, opt, sec⟩ = room := by unfold roomF; rw [← hroom, ← hrd]
  refine ww ?_
  exact rq ⟨(⟨fm, kind, state, sur, giv, num, nat, bir, sex, exp, opt, sec⟩, a15), ⟨⟨hfm, kme, sme, nme, ⟨x1, x2⟩, u1, hnum, b1, sxme, ⟨_, ⟨by omega, by omega⟩, hex⟩, by rw [hrf]; exact j1, k1⟩, k2⟩, rfl, rfl⟩ rfl (.refl _)
end Tdoc
/- Dice: the file of a group. -/
set_option linter.unusedVariables false
set_option linter.unusedSimpArgs false
namespace Tdoc
open Go Go.Proofs

/-- What a file of a group is: nothing, or a group that was wrapped. -/
def FileW (b : List UInt8) : Prop := b = [] ∨ ∃ (n : Int) (k : List Node), b = (wrapG n k).1
theorem FileW.short {b : List UInt8} (h : FileW b) : b.length ≤ 4096 := by
  rcases h with rfl | ⟨n, k, rfl⟩
  · simp
  · by_cases h0 : (wrapG n k).1 = []
    · rw [h0]; simp
    · unfold wrapG at h0 ⊢
      split
      · simp
      · rename_i ht
        rw [if_neg ht] at h0
        have := encodeP_nil h0
        rw [this.1]; exact this.2
theorem wrapM {n : Int} {k : List Node} (h1 : 1 ≤ n) (h2 : n ≤ 16) : FileM (wrapG n k).1 := .inr ⟨n, k, h1, h2, rfl⟩
theorem zoneM (z : Zon) : FileM (zoneF z).1 := by
  unfold zoneF; split
  · exact .inl rfl
  · exact wrapM (by omega) (by omega)
theorem bioM {n : Int} (l : List Tpl) : FileM (bioF n l).1 := by
  unfold bioF; split
  · exact .inl rfl
  split
  · exact .inl rfl
  split
  · exact .inl rfl
  · exact wrapM (by omega) (by omega)
theorem detM {n : Int} (l : List Det) : FileM (detF n l).1 := by
  unfold detF; split
  · exact .inl rfl
  split
  · exact .inl rfl
  split
  · exact .inl rfl
  · rename_i h _ _
    exact wrapM (by omega) (by omega)
theorem infosM (l : List Inf) : FileM (infosF l).1 := by
  unfold infosF; split
  · exact .inl rfl
  · exact wrapM (by omega) (by omega)
theorem activeM (k : Int) : FileM (activeG k).1 := by
  unfold activeG; split
  · exact wrapM (by omega) (by omega)
  · exact .inl rfl
theorem FileM.w {b : List UInt8} (h : FileM b) : FileW b := by
  rcases h with h | ⟨n, k, _, _, h⟩
  · exact .inl h
  · exact .inr ⟨n, k, h⟩

def DFileP (L : List Int) (n : Int) (x : List UInt8 × Nat) : Prop := FileW x.1 ∧ (n ≤ 16 → FileM x.1) ∧ x.2 ≤ L.length
theorem InfsM.key {l : List Inf} (h : InfsM l) : ∀ x, x ∈ l → KeyOk x := fun x hx hp => by
  obtain ⟨_, h1 | ⟨_, _, _, n, h1⟩ | h1⟩ := h.1 x hx
  · omega
  · have := pointG_range n; rw [h1]; omega
  · omega

set_option maxHeartbeats 8000000 in
set_option maxRecDepth 100000 in
theorem DFile_spec (L : List Int) (hL : L.length ≤ 1000000) (a : Nat) (ha : a ≤ L.length) (n : Int) (h1 : 1 ≤ n) (h18 : n ≤ 18) :
    Spec Tryz.prog 11 [.ptr 0 0, .d (.int .i64 n)] [.row (diceR L a)] (fun r h' => ∃ x, DFileP L n x ∧ r = .d (.sl 1 (encB x.1)) ∧ h' = [.row (diceR L x.2)]) := by
  have hZ := DZone_spec L hL a ha
  have hI := DInfos_spec L hL a ha
  have hNd := Nodes_spec L hL 2 a (by omega) (by omega) ha
  refine Spec_of_body hT Tryz.func11 rfl rfl rfl rfl ?_; intro E hE
  refine ww ?_
  refine AW_condL rfl (fun c1 => ?_) (fun c1 => ?_)
  · have c1' : n = 1 := by simpa using c1
    refine ww ?_
    refine AWk_opX (callX rfl rfl (hZ) [0] (by decide) rfl rfl rfl rfl (fun _ => rfl) (fun _ => rfl) (fun _ => rfl)) rfl ?_
    rintro ⟨z, a1⟩ ⟨q1, q2⟩
    simp only at q1 q2 ⊢
    have hZR := ZoneR_spec z q1.len
    have hm := zoneM z
    generalize zoneF z = w at hZR hm
    obtain ⟨w, we⟩ := w
    obtain ⟨fmt, kind, state, sur, giv, num, nat, bir, sex, exp, opt, sec⟩ := z
    unfold zAV zCells at hZR ⊢
    simp only at hZR hm ⊢
    refine ww ?_
    refine wwc hZR ?_
    refine ww ?_
    exact rq ⟨(w, a1), ⟨hm.w, fun _ => hm, q2⟩, rfl, rfl⟩ rfl (.refl _)
  have c1' : ¬ n = 1 := by simpa using c1
  have bio : 2 ≤ n → n ≤ 4 → True := fun _ _ => trivial
  have hw1 : IntKind.i64.wrap (n - 1) = n - 1 := wrap_id (by omega)
  refine ww ?_
  refine AW_condL rfl (fun c2 => ?_) (fun c2 => ?_)
  · have c2' : n = 2 := by simpa using c2
    have hT' := DTemplates_spec L hL a ha (n - 1) (by omega)
    rw [← hw1] at hT'
    refine ww ?_
    refine AW_condL rfl (fun d2 => ?_) (fun d2 => ?_)
    · refine ww ?_
      refine AWk_opX (callX rfl rfl (hT') [0] (by decide) rfl rfl rfl rfl (fun _ => rfl) (fun _ => rfl) (fun _ => rfl)) rfl ?_
      rintro ⟨l, a1⟩ ⟨q1, q2, q3, q4⟩
      simp only at q1 q2 q3 q4 ⊢
      have hB := bioF_spec n (by omega) l (by omega)
      have hm := bioM (n := n) l
      generalize bioF n l = w at hB hm
      obtain ⟨w, we⟩ := w
      simp only at hB hm
      refine ww ?_
      refine wwc hB ?_
      refine ww ?_
      exact rq ⟨(w, a1), ⟨hm.w, fun _ => hm, q4⟩, rfl, rfl⟩ rfl (.refl _)
    · exact absurd c2 (by rw [d2]; simp)
  have c2' : ¬ n = 2 := by simpa using c2
  refine ww ?_
  refine AW_condL rfl (fun c3 => ?_) (fun c3 => ?_)
  · have c3' : n = 3 := by simpa using c3
    have hT' := DTemplates_spec L hL a ha (n - 1) (by omega)
    rw [← hw1] at hT'
    refine ww ?_
    refine AW_condL rfl (fun d2 => ?_) (fun d2 => ?_)
    · refine ww ?_
      refine AWk_opX (callX rfl rfl (hT') [0] (by decide) rfl rfl rfl rfl (fun _ => rfl) (fun _ => rfl) (fun _ => rfl)) rfl ?_
      rintro ⟨l, a1⟩ ⟨q1, q2, q3, q4⟩
      simp only at q1 q2 q3 q4 ⊢
      have hB := bioF_spec n (by omega) l (by omega)
      have hm := bioM (n := n) l
      generalize bioF n l = w at hB hm
      obtain ⟨w, we⟩ := w
      simp only at hB hm
      refine ww ?_
      refine wwc hB ?_
      refine ww ?_
      exact rq ⟨(w, a1), ⟨hm.w, fun _ => hm, q4⟩, rfl, rfl⟩ rfl (.refl _)
    · exact absurd c3 (by rw [d2]; simp)
  have c3' : ¬ n = 3 := by simpa using c3
  refine ww ?_
  refine AW_condL rfl (fun c4 => ?_) (fun c4 => ?_)
  · have c4' : n = 4 := by simpa using c4
    have hT' := DTemplates_spec L hL a ha (n - 1) (by omega)
    rw [← hw1] at hT'
    refine ww ?_
    refine AWk_opX (callX rfl rfl (hT') [0] (by decide) rfl rfl rfl rfl (fun _ => rfl) (fun _ => rfl) (fun _ => rfl)) rfl ?_
    rintro ⟨l, a1⟩ ⟨q1, q2, q3, q4⟩
    simp only at q1 q2 q3 q4 ⊢
    have hB := bioF_spec n (by omega) l (by omega)
    have hm := bioM (n := n) l
    generalize bioF n l = w at hB hm
    obtain ⟨w, we⟩ := w
    simp only at hB hm
    refine ww ?_
    refine wwc hB ?_
    refine ww ?_
    exact rq ⟨(w, a1), ⟨hm.w, fun _ => hm, q4⟩, rfl, rfl⟩ rfl (.refl _)
  have c4' : ¬ n = 4 := by simpa using c4
  have hD := DDetails_spec L hL a ha n
  refine ww ?_
  refine AW_condL rfl (fun c5 => ?_) (fun c5 => ?_)
  · have c5' : n = 11 := by simpa using c5
    refine ww ?_
    refine AW_condL rfl (fun d2 => ?_) (fun d2 => ?_)
    · refine ww ?_
      refine AWk_opX (callX rfl rfl (hD) [0] (by decide) rfl rfl rfl rfl (fun _ => rfl) (fun _ => rfl) (fun _ => rfl)) rfl ?_
      rintro ⟨l, a1⟩ ⟨q1, q2⟩
      simp only at q1 q2 ⊢
      have hB := detF_spec n (by omega) l (by have := q1.2.2; omega)
      have hm := detM (n := n) l
      generalize detF n l = w at hB hm
      obtain ⟨w, we⟩ := w
      simp only at hB hm
      refine ww ?_
      refine wwc hB ?_
      refine ww ?_
      exact rq ⟨(w, a1), ⟨hm.w, fun _ => hm, q2⟩, rfl, rfl⟩ rfl (.refl _)
    · exact absurd c5 (by rw [d2]; simp)
  have c5' : ¬ n = 11 := by simpa using c5
  refine ww ?_
  refine AW_condL rfl (fun c6 => ?_) (fun c6 => ?_)
  · have c6' : n = 12 := by simpa using c6
    refine ww ?_
    refine AWk_opX (callX rfl rfl (hD) [0] (by decide) rfl rfl rfl rfl (fun _ => rfl) (fun _ => rfl) (fun _ => rfl)) rfl ?_
    rintro ⟨l, a1⟩ ⟨q1, q2⟩
    simp only at q1 q2 ⊢
    have hB := detF_spec n (by omega) l (by have := q1.2.2; omega)
    have hm := detM (n := n) l
    generalize detF n l = w at hB hm
    obtain ⟨w, we⟩ := w
    simp only at hB hm
    refine ww ?_
    refine wwc hB ?_
    refine ww ?_
    exact rq ⟨(w, a1), ⟨hm.w, fun _ => hm, q2⟩, rfl, rfl⟩ rfl (.refl _)
  have c6' : ¬ n = 12 := by simpa using c6
  refine ww ?_
  refine AW_condL rfl (fun c7 => ?_) (fun c7 => ?_)
  · have c7' : n = 14 := by simpa using c7
    refine ww ?_
    refine AWk_opX (callX rfl rfl (hI) [0] (by decide) rfl rfl rfl rfl (fun _ => rfl) (fun _ => rfl) (fun _ => rfl)) rfl ?_
    rintro ⟨l, a1⟩ ⟨q1, q2⟩
    simp only at q1 q2 ⊢
    have hB := infosF_spec l (by have := q1.2.2; omega) q1.key
    have hm := infosM l
    generalize infosF l = w at hB hm
    obtain ⟨w, we⟩ := w
    simp only at hB hm
    refine ww ?_
    refine wwc hB ?_
    refine ww ?_
    exact rq ⟨(w, a1), ⟨hm.w, fun _ => hm, q2⟩, rfl, rfl⟩ rfl (.refl _)
  have c7' : ¬ n = 14 := by simpa using c7
  refine ww ?_
  refine AW_condL rfl (fun c8 => ?_) (fun c8 => ?_)
  · have c8' : n = 15 := by simpa using c8
    refine ww ?_
    refine AWk_opX (callX rfl rfl (Next_spec L hL a ha 1073741824 (by omega) (by omega)) [0] (by decide) rfl rfl rfl rfl (fun _ => rfl) (fun _ => rfl) (fun _ => rfl)) rfl ?_
    rintro ⟨m, a1⟩ ⟨q1, q2, q3⟩
    simp only at q1 q2 q3 ⊢
    have hP := Point_spec m
    have hB := ActiveR_spec (pointG m)
    have hm := activeM (pointG m)
    generalize activeG (pointG m) = w at hB hm
    generalize pointG m = pt at hP hB
    obtain ⟨w, we⟩ := w
    simp only at hB hm
    refine ww ?_
    refine wwc hP ?_
    refine ww ?_
    refine wwc hB ?_
    refine ww ?_
    exact rq ⟨(w, a1), ⟨hm.w, fun _ => hm, q3⟩, rfl, rfl⟩ rfl (.refl _)
  have c8' : ¬ n = 15 := by simpa using c8
  refine ww ?_
  refine AWk_opX (callX rfl rfl (hNd) [0] (by decide) rfl rfl rfl rfl (fun _ => rfl) (fun _ => rfl) (fun _ => rfl)) rfl ?_
  rintro ⟨l, a1⟩ ⟨q1, q2, q3⟩
  simp only at q1 q2 q3 ⊢
  have hsz := (goodL_size 2 l q1).1
  have h13 : szB 2 = 13 := rfl
  rw [h13] at hsz
  have hB := WrapR_spec n (by omega) l (by omega) (goodL_fit 2 l q1) (by omega)
  have hm : FileW (wrapG n l).1 := .inr ⟨n, l, rfl⟩
  have hm2 : n ≤ 16 → FileM (wrapG n l).1 := fun h => wrapM h1 h
  generalize wrapG n l = w at hB hm hm2
  obtain ⟨w, we⟩ := w
  simp only at hB hm hm2
  refine ww ?_
  refine wwc hB ?_
  refine ww ?_
  exact rq ⟨(w, a1), ⟨hm, hm2, q3⟩, rfl, rfl⟩ rfl (.refl _)
end Tdoc
/- 'DatagroupsForms': whatever the numbers, the law returns true. -/
set_option linter.unusedVariables false
set_option linter.unusedSimpArgs false
namespace Tdoc
open Go Go.Proofs

theorem openX_wgt (b : List UInt8) : wgtL (openX b).2.1 ≤ 11 * b.length := by
  unfold openX
  split
  · simp [wgtL]
  · rename_i h
    have hg := parseX_good (b := b) (st := false) (by omega)
    split
    · rename_i t v k hk
      rw [hk] at hg
      have : wgtL [Node.mk t v k] = 11 + v.length + wgtL k := by simp [wgtL, wgtN]
      split
      · simp [wgtL]
      · simp only; omega
    · simp [wgtL]

set_option maxHeartbeats 8000000 in
set_option maxRecDepth 100000 in
theorem datagroupsForms_spec (t : List Int) (ht : t.length ≤ 9223372036854775807) : Spec Tryz.prog 3 [.d (.sl 1 (encI t))] [] (fun r h' => r = .d (.bool true) ∧ h' = []) := by
  have hli := Light_spec t
  refine Spec_of_body hT Tryz.func3 rfl rfl rfl rfl ?_; intro E hE
  refine ww ?_
  refine wwc hli ?_
  refine ww ?_
  refine AW_condL rfl (fun h1 => ?_) (fun h1 => ?_)
  · refine ww ?_
    refine wwc awake_spec ?_
    refine ww ?_
    exact wwr
  · have h1' : t.length ≤ 400 := by simpa using h1
    have hR := Roll_spec t (by omega)
    have hN := Next_spec t (by omega) 0 (by omega) 16 (by omega) (by omega)
    refine wwe ?_
    refine AW_room ?_
    refine AW_seq (AW_region ?_)
    refine wws ?_
    refine AWk_opF (callS rfl rfl hR [0] (by decide) rfl rfl rfl rfl rfl rfl) rfl rfl ?_
    refine ww ?_
    refine AWk_opX (callX rfl rfl (hN) [0] (by decide) rfl rfl rfl rfl (fun _ => rfl) (fun _ => rfl) (fun _ => rfl)) rfl ?_
    rintro ⟨n, a1⟩ ⟨q1, q2, q3⟩
    simp only at q1 q2 q3 ⊢
    have hwn : IntKind.i64.wrap (1 + n) = 1 + n := wrap_id (by omega)
    have hF := DFile_spec t (by omega) a1 q3 (1 + n) (by omega) (by omega)
    rw [← hwn] at hF
    refine ww ?_
    refine AWk_opX (callX rfl rfl (hF) [0] (by decide) rfl rfl rfl rfl (fun _ => rfl) (fun _ => rfl) (fun _ => rfl)) rfl ?_
    rintro ⟨b, a2⟩ ⟨f0, f1, f2⟩
    simp only at f0 f1 f2 ⊢
    have f1 := f1 (by omega)
    have hbl := f1.short
    have hbe := encB_length b
    have hP := ParseR_spec b true (by omega)
    have hO := Open_spec b (by omega)
    by_cases he : (parseX b true).2 = 0
    · have hg := parseX_good he
      have hps : parseS b true = ((parseX b true).1, 0) := by unfold parseS; rw [he, if_neg (by simp)]
      have hfp := fun hb => forms_plain f1 hb he
      rw [hps] at hP
      have hL := Loose_spec t (by omega) _ 1 (parseX b true).1 a2 (Nat.le_refl _) hg.2.1 (by omega) f2
      have hlw : wgtL (parseX b true).1 ≤ 45056 := by omega
      generalize (parseX b true).1 = l at hP hL hfp hlw
      have hsame := SameNodes_spec _ (openX b).2.1 (Nat.le_refl _) (by have := openX_wgt b; omega)
      generalize openX b = ob at hO hfp hsame
      obtain ⟨n1, l1, e1⟩ := ob
      simp only at hP hO hfp hsame
      refine ww ?_
      refine wwc hP ?_
      refine ww ?_
      refine AW_condL rfl (fun h2 => ?_) (fun h2 => ?_)
      · exact absurd h2 (by simp)
      refine ww ?_
      refine AWk_opX (callX rfl rfl (hL) [0] (by decide) rfl rfl rfl rfl (fun _ => rfl) (fun _ => rfl) (fun _ => rfl)) rfl ?_
      rintro ⟨c, a3⟩ ⟨c1, c2, c3⟩
      simp only at c1 c2 c3 ⊢
      have hce := encB_length c
      have hOc := Open_spec c (by omega)
      have hfc : b ≠ [] → c.length ≤ 4096 → openX c = (n1, l1, e1) := fun hb hc => (hfp hb).2 c c1 hc
      generalize openX c = oc at hOc hfc
      obtain ⟨n2, l2, e2⟩ := oc
      simp only at hOc hfc
      refine ww ?_
      refine wwc hO ?_
      refine ww ?_
      refine wwc hOc ?_
      refine ww ?_
      refine AW_condL rfl (fun h3 => ?_) (fun h3 => ?_)
      · refine ww ?_
        refine wwc awake_spec ?_
        refine ww ?_
        exact wwr
      · have hb0 : b ≠ [] := by
          rintro rfl
          simp [encB] at h3
        have hc4 : c.length ≤ 4096 := by simp at h3; omega
        have hcc := hfc hb0 hc4
        have he1 := (hfp hb0).1
        simp only [Prod.mk.injEq] at hcc
        obtain ⟨rfl, rfl, rfl⟩ := hcc
        subst he1
        refine ww ?_
        refine wwc awake_spec ?_
        refine ww ?_
        refine wwgc hsame ?_
        refine ww ?_
        exact wwr
    · have hps : (parseS b true).2 ≠ 0 := he
      generalize parseS b true = q at hP hps
      obtain ⟨l, e⟩ := q
      simp only at hP hps
      refine ww ?_
      refine wwc hP ?_
      refine ww ?_
      refine AW_condL rfl (fun h2 => ?_) (fun h2 => ?_)
      · refine ww ?_
        refine wwc awake_spec ?_
        refine ww ?_
        exact wwr
      · exact absurd (by simpa using h2) hps
end Tdoc
