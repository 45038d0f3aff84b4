/- Results out of numbers, as a list that the caller owns. -/
import Derived.Test.YtoaogfehdalmdaaGreatDoorK6
import Derived.Test.YtoaogfehdalmdaaGreatDoorK4
import Derived.Test.YtoaogfehdalmdaaGreatDoorK3
import Derived.Lib.SplitLaws
set_option linter.unusedVariables false
set_option linter.unusedSimpArgs false
namespace Tdoc
open Go Go.Proofs

set_option maxHeartbeats 8000000 in
set_option maxRecDepth 100000 in
theorem ResultsO_spec (l : List Int) (hl : l.length ≤ 1000000) : Spec Tryz.prog 9 [.d (.sl 1 (numsD .i64 l))] [.room] (fun r h' => r = .bm 0 13 ∧ h' = [.buf 2 13 (rowR (resM l 13))]) := by
  have hroll := Roll_spec l hl
  refine Spec_of_body hT Tryz.func9 rfl rfl rfl rfl ?_
  intro E hE
  refine AW_room ?_
  repeat (first | refine wk hT rfl rfl ?_ | refine wd hT rfl rfl rfl ?_ | refine wz hT rfl ?_ | refine AWd_nil ?_ | refine AWk_nil ?_ | refine wh hT rfl rfl rfl rfl ?_ | refine wg hT rfl rfl rfl rfl rfl ?_ | refine AW_seq ?_ | refine AW_region ?_ | refine wx mixed ?_ | refine AW_block ?_ | refine AW_skip ?_ | refine AW_exit ?_ | refine AW_ret ?_)
  refine AWk_opF (callS rfl rfl hroll [1] (by decide) rfl rfl rfl rfl rfl rfl) rfl rfl ?_
  repeat (first | refine wk hT rfl rfl ?_ | refine wd hT rfl rfl rfl ?_ | refine wz hT rfl ?_ | refine AWd_nil ?_ | refine AWk_nil ?_ | refine wh hT rfl rfl rfl rfl ?_ | refine wg hT rfl rfl rfl rfl rfl ?_ | refine AW_seq ?_ | refine AW_region ?_ | refine AW_block ?_ | refine AW_skip ?_ | refine AW_exit ?_ | refine AW_ret ?_)
  refine AW_bufOf 4 2 0 (.inr rfl) rfl rfl ?_
  repeat (first | refine wk hT rfl rfl ?_ | refine wd hT rfl rfl rfl ?_ | refine wz hT rfl ?_ | refine AWd_nil ?_ | refine AWk_nil ?_ | refine wh hT rfl rfl rfl rfl ?_ | refine wg hT rfl rfl rfl rfl rfl ?_ | refine AW_seq ?_ | refine AW_region ?_ | refine AW_block ?_ | refine AW_skip ?_ | refine AW_exit ?_ | refine AW_ret ?_)
  refine AW_loopL (ι := Nat) (fun k => [(3, .ptr 1 0), (4, .bm 0 k), (5, .d (.int .i64 ((k + 1 : Nat) : Int)))])
    (fun k => [.buf 2 k (rowR (resM l k)), .row (dice l (min k l.length))]) (fun k => k ≤ 13) (fun k => 13 - k) 0 (by omega) ⟨.refl _, .refl _, .refl _, trivial⟩ ?_ ?_
  · simp only [Nat.zero_min]; exact HLe.refl _
  intro k hk
  have hn := Next_spec l (min k l.length) 4 (by omega) hl (by omega)
  have hr := nextV_range (l := l) (a := min k l.length) (n := 4) (by omega)
  have hsucc := resM_succ l k
  rw [nextA_min] at hn
  generalize nextV l (min k l.length) 4 = x at hn hr hsucc
  have hw1 : IntKind.i64.wrap (1 + x) = 1 + x := wrap_id (by omega)
  have hw2 : IntKind.i64.wrap (((k + 1 : Nat) : Int) + 1) = ((k + 1 + 1 : Nat) : Int) := by rw [wrap_id (by omega)]; omega
  repeat (first | refine wk hT rfl rfl ?_ | refine wd hT rfl rfl rfl ?_ | refine wz hT rfl ?_ | refine AWd_nil ?_ | refine AWk_nil ?_ | refine wh hT rfl rfl rfl rfl ?_ | refine wg hT rfl rfl rfl rfl rfl ?_ | refine AW_seq ?_ | refine AW_region ?_ | refine wx mixed ?_ | refine AW_block ?_ | refine AW_skip ?_ | refine AW_exit ?_ | refine AW_ret ?_)
  refine AW_condL rfl (fun h1 => ?_) (fun h1 => ?_)
  · have hlt : k < 13 := by simp at h1; omega
    repeat (first | refine wk hT rfl rfl ?_ | refine wd hT rfl rfl rfl ?_ | refine wz hT rfl ?_ | refine AWd_nil ?_ | refine AWk_nil ?_ | refine wh hT rfl rfl rfl rfl ?_ | refine wg hT rfl rfl rfl rfl rfl ?_ | refine AW_seq ?_ | refine AW_region ?_ | refine wx mixed ?_ | refine AW_block ?_ | refine AW_skip ?_ | refine AW_exit ?_ | refine AW_ret ?_)
    refine AWk_op (callS1 rfl rfl hn [1] (by decide) rfl rfl rfl rfl rfl rfl rfl) rfl ?_
    repeat (first | refine wk hT rfl rfl ?_ | refine wd hT rfl rfl rfl ?_ | refine wz hT rfl ?_ | refine AWd_nil ?_ | refine AWk_nil ?_ | refine wh hT rfl rfl rfl rfl ?_ | refine wg hT rfl rfl rfl rfl rfl ?_ | refine AW_seq ?_ | refine AW_region ?_ | refine wx mixed ?_ | refine AW_block ?_ | refine AW_skip ?_ | refine AW_exit ?_ | refine AW_ret ?_)
    refine AWk_op (bufApp_ok (i := 0) hT rfl rfl rfl rfl rfl rfl (by show (k + 1) * (16 + 1) ≤ 140737488355328; omega)) rfl ?_
    repeat (first | refine wk hT rfl rfl ?_ | refine wd hT rfl rfl rfl ?_ | refine wz hT rfl ?_ | refine AWd_nil ?_ | refine AWk_nil ?_ | refine wh hT rfl rfl rfl rfl ?_ | refine wg hT rfl rfl rfl rfl rfl ?_ | refine AW_seq ?_ | refine AW_region ?_ | refine wx mixed ?_ | refine AW_block ?_ | refine AW_skip ?_ | refine AW_exit ?_ | refine AW_ret ?_)
    exact ⟨k + 1, by omega, by omega, ⟨.refl _, .refl _, .int hw2, trivial⟩, ⟨⟨rfl, rfl, AllLe.of_eq (by rw [hsucc, rowR_append]; show _ ++ flatAV [[Dat.int .i64 ((k + 1 : Nat) : Int), Dat.int .i64 (IntKind.i64.wrap (1 + x))]] = _; rw [hw1]; rfl)⟩, ObLe.refl _, trivial⟩⟩
  · have hge : k = 13 := by simp at h1; omega
    subst hge
    repeat (first | refine wk hT rfl rfl ?_ | refine wd hT rfl rfl rfl ?_ | refine wz hT rfl ?_ | refine AWd_nil ?_ | refine AWk_nil ?_ | refine wh hT rfl rfl rfl rfl ?_ | refine wg hT rfl rfl rfl rfl rfl ?_ | refine AW_seq ?_ | refine AW_region ?_ | refine wx mixed ?_ | refine AW_block ?_ | refine AW_skip ?_ | refine AW_exit ?_ | refine AW_ret ?_)
    exact rq ⟨rfl, rfl⟩ rfl (.refl _) (h6 := (Bool.and_true _).trans (lowL_row _ _))

/-! equal results, equal decisions -/
def sameR : List Res → List Res → Bool
  | [], [] => true
  | a :: l, b :: r => decide (a = b) && sameR l r
  | _, _ => false
theorem sameR_eq : ∀ (l r : List Res), sameR l r = decide (l = r)
  | [], [] => by simp [sameR]
  | [], b :: r => by simp [sameR]
  | a :: l, [] => by simp [sameR]
  | a :: l, b :: r => by rw [sameR, sameR_eq l r, Bool.eq_iff_iff]; simp
end Tdoc
/- Results held against each other. -/
set_option linter.unusedVariables false
set_option linter.unusedSimpArgs false
namespace Tdoc
open Go Go.Proofs

theorem agg2_inv {G : Gh} {a b : Int} {v : Value} (h : RepA G (.agg [.d (.int .i64 a), .d (.int .i64 b)]) v) : v = .agg #[.int .i64 a, .int .i64 b] := by
  cases h with
  | agg vs h1 h2 h3 =>
    obtain ⟨l⟩ := vs
    match l, h1 with
    | [x, y], _ =>
      have hx := (h2 0 _ x rfl rfl).int_inv
      have hy := (h2 1 _ y rfl rfl).int_inv
      rw [hx, hy]

theorem resEq_run (w : World) (a b c d : Int) : (Op.equal 40 (.agg #[.int .i64 a, .int .i64 b]) (.agg #[.int .i64 c, .int .i64 d])).run Tryz.prog w = .ok (decide ((a, b) = (c, d))) w := by
  show (Op.equalIn (9998 + 1 + 1) 40 _ _).run Tryz.prog w = _
  have hs : Tryz.prog.stoodInHeld 40 = false := by kernel_rfl
  have h3 := Tryz.underlying3
  rw [Op.equalIn]
  have hp : ∀ (x y : Int) (w : World), (part 3 #[Value.int .i64 x, Value.int .i64 y] 0).run Tryz.prog w = .ok (.int .i64 x) w ∧ (part 3 #[Value.int .i64 x, Value.int .i64 y] 1).run Tryz.prog w = .ok (.int .i64 y) w := fun x y w => by
    simp [part, Tryz.isAgg3]
  have he : ∀ (x y : Int) (w : World), (Op.equalIn 9999 3 (.int .i64 x) (.int .i64 y)).run Tryz.prog w = .ok (x == y) w := fun x y w => by
    rw [Op.equalIn]
    simp [run_underlying h3]
  simp [run_underlying Tryz.underlying40, hs, (hp _ _ _).1, (hp _ _ _).2, he]
  by_cases h1 : a = c
  · by_cases h2 : b = d
    · simp [h1, h2]
    · simp [h1, h2]
  · simp [h1]

theorem resNe_ok {o : Oper} {ρ : Operand → AV} {x y : Operand} {yt : Nat} {a b c d : Int} (ho : o.op = .binOp .neq 40 x y yt) (hx : ρ x = .agg [.d (.int .i64 a), .d (.int .i64 b)]) (hy : ρ y = .agg [.d (.int .i64 c), .d (.int .i64 d)]) : OpP Tryz.prog o ρ (.d (.bool (!decide ((a, b) = (c, d))))) := by
  intro G e w hi hr
  have hx' : RepA G (ρ x) (e x) := hr x (by simp [ho, Op.operands])
  have hy' : RepA G (ρ y) (e y) := hr y (by simp [ho, Op.operands])
  rw [hx] at hx'; rw [hy] at hy'
  refine ⟨.bool (!decide ((a, b) = (c, d))), ?_, .d (.bool _)⟩
  have hg : Tryz.prog.eqGuardType Tryz.prog.depth 40 = false := by kernel_rfl
  have he := resEq_run w a b c d
  unfold execOp
  simp only [ho, Sem.run_bind, agg2_inv hx', agg2_inv hy']
  simp [eqGuard, hg, Go.binOp, he]

theorem encRes_load {a b : Int} : loadI T 40 [.int .i64 a, .int .i64 b] = some (.agg [.d (.int .i64 a), .d (.int .i64 b)]) := rfl

set_option maxHeartbeats 8000000 in
set_option maxRecDepth 100000 in
theorem SameResults_spec (a b : List Res) (ha : a.length ≤ 1000000) (hb : b.length ≤ 1000000) : Spec Tryz.prog 36 [.d (.sl 2 (encRes a)), .d (.sl 2 (encRes b))] [] (fun r h' => r = .d (.bool (decide (a = b))) ∧ h' = []) := by
  have hal := encRes_length a
  have hbl := encRes_length b
  rw [← sameR_eq]
  generalize hfin : sameR a b = fin
  refine Spec_of_body hT Tryz.func36 rfl rfl rfl rfl ?_
  intro E hE
  repeat (first | refine wk hT rfl rfl ?_ | refine wd hT rfl rfl rfl ?_ | refine wz hT rfl ?_ | refine AWd_nil ?_ | refine AWk_nil ?_ | refine wh hT rfl rfl rfl rfl ?_ | refine wg hT rfl rfl rfl rfl rfl ?_ | refine AW_seq ?_ | refine AW_region ?_ | refine wx mixed ?_ | refine AW_block ?_ | refine AW_skip ?_ | refine AW_exit ?_ | refine AW_ret ?_)
  refine AW_condL rfl (fun h1 => ?_) (fun h1 => ?_)
  · have h1' : a.length ≠ b.length := by rw [hal, hbl] at h1; simp at h1; omega
    have : fin = false := by rw [← hfin, sameR_eq, decide_eq_false]; intro hh; rw [hh] at h1'; exact h1' rfl
    subst this
    repeat (first | refine wk hT rfl rfl ?_ | refine wd hT rfl rfl rfl ?_ | refine wz hT rfl ?_ | refine AWd_nil ?_ | refine AWk_nil ?_ | refine wh hT rfl rfl rfl rfl ?_ | refine wg hT rfl rfl rfl rfl rfl ?_ | refine AW_seq ?_ | refine AW_region ?_ | refine wx mixed ?_ | refine AW_block ?_ | refine AW_skip ?_ | refine AW_exit ?_ | refine AW_ret ?_)
    first | exact rx ⟨rfl, rfl⟩ | exact rxN ⟨rfl, rfl⟩ | (refine rq ⟨rfl, rfl⟩ rfl ?_; repeat (first | exact trivial | exact AV.le.refl _ | exact AV.le.dat | exact AV.le.nils | exact AV.le.nilsf | exact AV.le.any _ | exact ObLe.refl _ | exact ⟨rfl, rfl⟩ | refine AV.le.tup ?_ | refine AV.le.agg ?_ | exact li | exact lb | exact ls | exact lk | exact ld | exact lz | refine ⟨?_, ?_⟩)) | (refine rqN ⟨rfl, rfl⟩ rfl ?_; repeat (first | exact trivial | exact AV.le.refl _ | exact AV.le.dat | exact AV.le.nils | exact AV.le.nilsf | exact AV.le.any _ | exact ObLe.refl _ | exact ⟨rfl, rfl⟩ | refine AV.le.tup ?_ | refine AV.le.agg ?_ | exact li | exact lb | exact ls | exact lk | exact ld | exact lz | refine ⟨?_, ?_⟩))
  · have h1' : a.length = b.length := by rw [hal, hbl] at h1; simp at h1; omega
    repeat (first | refine wk hT rfl rfl ?_ | refine wd hT rfl rfl rfl ?_ | refine wz hT rfl ?_ | refine AWd_nil ?_ | refine AWk_nil ?_ | refine wh hT rfl rfl rfl rfl ?_ | refine wg hT rfl rfl rfl rfl rfl ?_ | refine AW_seq ?_ | refine AW_region ?_ | refine wx mixed ?_ | refine AW_block ?_ | refine AW_skip ?_ | refine AW_exit ?_ | refine AW_ret ?_)
    refine AW_loopL (ι := Nat) (fun i => [(0, .d (.sl 2 (encRes a))), (1, .d (.sl 2 (encRes b))), (5, .d (.int .i64 (i : Int)))]) (fun _ => []) (fun i => i ≤ a.length ∧ sameR (a.drop i) (b.drop i) = fin) (fun i => a.length - i) 0 ⟨by omega, by simpa using hfin⟩ ⟨.refl _, .refl _, .refl _, trivial⟩ (HLe.refl _) ?_
    rintro i ⟨hi, hg⟩
    have hwr : IntKind.i64.wrap ((i : Int) + 1) = ((i + 1 : Nat) : Int) := by rw [wrap_id (by omega)]; omega
    repeat (first | refine wk hT rfl rfl ?_ | refine wd hT rfl rfl rfl ?_ | refine wz hT rfl ?_ | refine AWd_nil ?_ | refine AWk_nil ?_ | refine wh hT rfl rfl rfl rfl ?_ | refine wg hT rfl rfl rfl rfl rfl ?_ | refine AW_seq ?_ | refine AW_region ?_ | refine wx mixed ?_ | refine AW_block ?_ | refine AW_skip ?_ | refine AW_exit ?_ | refine AW_ret ?_)
    refine AW_condL rfl (fun h2 => ?_) (fun h2 => ?_)
    · have hlt : i < a.length := by rw [hal] at h2; simpa using h2
      have hlt2 : i < b.length := by omega
      have hel := encRes_at hlt
      have hel2 := encRes_at hlt2
      rw [show a.drop i = a[i] :: a.drop (i + 1) by simp, show b.drop i = b[i] :: b.drop (i + 1) by simp, sameR] at hg
      generalize a[i] = x at hel hg
      generalize b[i] = y at hel2 hg
      obtain ⟨x1, x2⟩ := x
      obtain ⟨y1, y2⟩ := y
      simp only at hel hel2
      repeat (first | refine wk hT rfl rfl ?_ | refine wd hT rfl rfl rfl ?_ | refine wz hT rfl ?_ | refine AWd_nil ?_ | refine AWk_nil ?_ | refine wh hT rfl rfl rfl rfl ?_ | refine wg hT rfl rfl rfl rfl rfl ?_ | refine AW_seq ?_ | refine AW_region ?_ | refine wx mixed ?_ | refine AW_block ?_ | refine AW_skip ?_ | refine AW_exit ?_ | refine AW_ret ?_)
      first | refine AWk_op (OpS_of_pure (indexAddr_ok hT rfl rfl rfl rfl (by omega) (hel))) rfl ?_ | refine AWd_op (OpS_of_pure (indexAddr_ok hT rfl rfl rfl rfl (by omega) (hel))) rfl rfl ?_
      repeat (first | refine wk hT rfl rfl ?_ | refine wd hT rfl rfl rfl ?_ | refine wz hT rfl ?_ | refine AWd_nil ?_ | refine AWk_nil ?_ | refine wh hT rfl rfl rfl rfl ?_ | refine wg hT rfl rfl rfl rfl rfl ?_ | refine AW_seq ?_ | refine AW_region ?_ | refine wx mixed ?_ | refine AW_block ?_ | refine AW_skip ?_ | refine AW_exit ?_ | refine AW_ret ?_)
      first | refine AWk_op (OpS_of_pure (indexAddr_ok hT rfl rfl rfl rfl (by omega) (hel2))) rfl ?_ | refine AWd_op (OpS_of_pure (indexAddr_ok hT rfl rfl rfl rfl (by omega) (hel2))) rfl rfl ?_
      repeat (first | refine wk hT rfl rfl ?_ | refine wd hT rfl rfl rfl ?_ | refine wz hT rfl ?_ | refine AWd_nil ?_ | refine AWk_nil ?_ | refine wh hT rfl rfl rfl rfl ?_ | refine wg hT rfl rfl rfl rfl rfl ?_ | refine AW_seq ?_ | refine AW_region ?_ | refine wx mixed ?_ | refine AW_block ?_ | refine AW_skip ?_ | refine AW_exit ?_ | refine AW_ret ?_)
      refine AWd_op (OpS_of_pure (resNe_ok rfl rfl rfl)) rfl rfl ?_
      repeat (first | refine wk hT rfl rfl ?_ | refine wd hT rfl rfl rfl ?_ | refine wz hT rfl ?_ | refine AWd_nil ?_ | refine AWk_nil ?_ | refine wh hT rfl rfl rfl rfl ?_ | refine wg hT rfl rfl rfl rfl rfl ?_ | refine AW_seq ?_ | refine AW_region ?_ | refine wx mixed ?_ | refine AW_block ?_ | refine AW_skip ?_ | refine AW_exit ?_ | refine AW_ret ?_)
      refine AW_condL rfl (fun h3 => ?_) (fun h3 => ?_)
      · have h3' : decide ((x1, x2) = (y1, y2)) = false := by rw [Bool.not_eq_true'] at h3; exact h3
        rw [h3', Bool.false_and] at hg
        subst hg
        repeat (first | refine wk hT rfl rfl ?_ | refine wd hT rfl rfl rfl ?_ | refine wz hT rfl ?_ | refine AWd_nil ?_ | refine AWk_nil ?_ | refine wh hT rfl rfl rfl rfl ?_ | refine wg hT rfl rfl rfl rfl rfl ?_ | refine AW_seq ?_ | refine AW_region ?_ | refine wx mixed ?_ | refine AW_block ?_ | refine AW_skip ?_ | refine AW_exit ?_ | refine AW_ret ?_)
        first | exact rx ⟨rfl, rfl⟩ | exact rxN ⟨rfl, rfl⟩ | (refine rq ⟨rfl, rfl⟩ rfl ?_; repeat (first | exact trivial | exact AV.le.refl _ | exact AV.le.dat | exact AV.le.nils | exact AV.le.nilsf | exact AV.le.any _ | exact ObLe.refl _ | exact ⟨rfl, rfl⟩ | refine AV.le.tup ?_ | refine AV.le.agg ?_ | exact li | exact lb | exact ls | exact lk | exact ld | exact lz | refine ⟨?_, ?_⟩)) | (refine rqN ⟨rfl, rfl⟩ rfl ?_; repeat (first | exact trivial | exact AV.le.refl _ | exact AV.le.dat | exact AV.le.nils | exact AV.le.nilsf | exact AV.le.any _ | exact ObLe.refl _ | exact ⟨rfl, rfl⟩ | refine AV.le.tup ?_ | refine AV.le.agg ?_ | exact li | exact lb | exact ls | exact lk | exact ld | exact lz | refine ⟨?_, ?_⟩))
      · have h3' : decide ((x1, x2) = (y1, y2)) = true := by rw [Bool.not_eq_false'] at h3; exact h3
        rw [h3', Bool.true_and] at hg
        repeat (first | refine wk hT rfl rfl ?_ | refine wd hT rfl rfl rfl ?_ | refine wz hT rfl ?_ | refine AWd_nil ?_ | refine AWk_nil ?_ | refine wh hT rfl rfl rfl rfl ?_ | refine wg hT rfl rfl rfl rfl rfl ?_ | refine AW_seq ?_ | refine AW_region ?_ | refine wx mixed ?_ | refine AW_block ?_ | refine AW_skip ?_ | refine AW_exit ?_ | refine AW_ret ?_)
        exact ⟨i + 1, ⟨by omega, hg⟩, by omega, ⟨.refl _, .refl _, .int hwr, trivial⟩, HLe.refl _⟩
    · have hge : i = a.length := by rw [hal] at h2; simp at h2; omega
      rw [List.drop_of_length_le (by omega), List.drop_of_length_le (by omega), sameR] at hg
      subst hg
      repeat (first | refine wk hT rfl rfl ?_ | refine wd hT rfl rfl rfl ?_ | refine wz hT rfl ?_ | refine AWd_nil ?_ | refine AWk_nil ?_ | refine wh hT rfl rfl rfl rfl ?_ | refine wg hT rfl rfl rfl rfl rfl ?_ | refine AW_seq ?_ | refine AW_region ?_ | refine wx mixed ?_ | refine AW_block ?_ | refine AW_skip ?_ | refine AW_exit ?_ | refine AW_ret ?_)
      first | exact rx ⟨rfl, rfl⟩ | exact rxN ⟨rfl, rfl⟩ | (refine rq ⟨rfl, rfl⟩ rfl ?_; repeat (first | exact trivial | exact AV.le.refl _ | exact AV.le.dat | exact AV.le.nils | exact AV.le.nilsf | exact AV.le.any _ | exact ObLe.refl _ | exact ⟨rfl, rfl⟩ | refine AV.le.tup ?_ | refine AV.le.agg ?_ | exact li | exact lb | exact ls | exact lk | exact ld | exact lz | refine ⟨?_, ?_⟩)) | (refine rqN ⟨rfl, rfl⟩ rfl ?_; repeat (first | exact trivial | exact AV.le.refl _ | exact AV.le.dat | exact AV.le.nils | exact AV.le.nilsf | exact AV.le.any _ | exact ObLe.refl _ | exact ⟨rfl, rfl⟩ | refine AV.le.tup ?_ | refine AV.le.agg ?_ | exact li | exact lb | exact ls | exact lk | exact ld | exact lz | refine ⟨?_, ?_⟩))

set_option maxHeartbeats 8000000 in
set_option maxRecDepth 100000 in
theorem Same_spec (a b : Decn) (ha : a.rs.length ≤ 1000000) (hb : b.rs.length ≤ 1000000) : Spec Tryz.prog 12 [decAV a, decAV b] [] (fun r h' => r = .d (.bool (decide (a.v = b.v) && decide (a.rule = b.rule) && decide (a.rs = b.rs))) ∧ h' = []) := by
  obtain ⟨v, rule, l⟩ := a
  obtain ⟨v2, rule2, l2⟩ := b
  have hs := SameResults_spec l l2 ha hb
  unfold decAV decCells
  simp only at ha hb ⊢
  generalize decide (l = l2) = q at hs ⊢
  refine Spec_of_body hT Tryz.func12 rfl rfl rfl rfl ?_
  intro E hE
  repeat (first | refine wk hT rfl rfl ?_ | refine wd hT rfl rfl rfl ?_ | refine wz hT rfl ?_ | refine AWd_nil ?_ | refine AWk_nil ?_ | refine wh hT rfl rfl rfl rfl ?_ | refine wg hT rfl rfl rfl rfl rfl ?_ | refine AW_seq ?_ | refine AW_region ?_ | refine wx mixed ?_ | refine AW_block ?_ | refine AW_skip ?_ | refine AW_exit ?_ | refine AW_ret ?_)
  refine AWk_gop rfl rfl rfl (fun hg' => ⟨by first | exact ⟨hg', hg', True.intro⟩ | exact (sg (C := True) hg').1, callS0 rfl rfl hs rfl rfl rfl⟩) ?_
  repeat (first | refine wk hT rfl rfl ?_ | refine wd hT rfl rfl rfl ?_ | refine wz hT rfl ?_ | refine AWd_nil ?_ | refine AWk_nil ?_ | refine wh hT rfl rfl rfl rfl ?_ | refine wg hT rfl rfl rfl rfl rfl ?_ | refine AW_seq ?_ | refine AW_region ?_ | refine wx mixed ?_ | refine AW_block ?_ | refine AW_skip ?_ | refine AW_exit ?_ | refine AW_ret ?_)
  exact rq ⟨rfl, rfl⟩ rfl (.bool (by rw [Bool.eq_iff_iff]; simp))
end Tdoc
/- Decisions as text: of the program and of the reference. -/
set_option linter.unusedVariables false
set_option linter.unusedSimpArgs false
namespace Tdoc
open Go Go.Proofs

theorem nameOf_len (l : List (List UInt8)) (m : Nat) (h : ∀ s, s ∈ l → s.length ≤ m) (n : Int) : (nameOf l n).length ≤ m := by
  unfold nameOf
  split
  · simp
  · cases hg : l[(n - 1).toNat]? with
    | none => simp
    | some s => exact h s (List.mem_of_getElem? hg)
theorem chk_len (n : Int) : (nameOf chk n).length ≤ 20 := nameOf_len chk 20 (by decide) n
theorem vls_len (n : Int) : (nameOf vls n).length ≤ 20 := nameOf_len vls 20 (by decide) n
theorem vds_len (n : Int) : (nameOf vds n).length ≤ 20 := nameOf_len vds 20 (by decide) n
theorem vds_empty (n : Int) : ((nameOf vds n) == []) = decide (n < 1 ∨ n > 3) := by
  unfold nameOf
  by_cases h : n < 1 ∨ n > (vds.length : Int)
  · rw [if_pos h]; simp [vds] at h ⊢; omega
  · rw [if_neg h]
    have h3 : vds.length = 3 := rfl
    rw [h3] at h
    have : n = 1 ∨ n = 2 ∨ n = 3 := by omega
    rcases this with rfl | rfl | rfl <;> decide

def lineF (r : Res) : List UInt8 := nameOf chk r.1 ++ [32] ++ nameOf vls r.2
def firstF (d : Decn) : List UInt8 := nameOf vds d.v ++ [32] ++ Lib.itoa d.rule
def textOk (d : Decn) : Bool := decide (1 ≤ d.v ∧ d.v ≤ 3 ∧ -1 ≤ d.rule ∧ d.rule < 32) && properF 0 d.rs
def textF (d : Decn) : List UInt8 := if textOk d = true then Lib.join (firstF d :: d.rs.map lineF) [10] else []

theorem itoa_len (n : Int) (h : -100 < n ∧ n < 100) : (Lib.itoa n).length ≤ 3 := by
  have h1 : ∀ u, u < 10 → (Lib.decDigits u).length = 1 := fun u hu => by rw [Lib.decDigits, dif_pos hu]; rfl
  have h2 : ∀ u, u < 100 → (Lib.decDigits u).length ≤ 2 := fun u hu => by
    rw [Lib.decDigits]
    split
    · simp
    · have := h1 (u / 10) (by omega)
      simp [this]
  unfold Lib.itoa
  split
  · have := h2 n.natAbs (by omega); simp; omega
  · have := h2 n.toNat (by omega); omega

theorem proper_len : ∀ (l : List Res) (p : Int), 0 ≤ p → properF p l = true → (l.length : Int) ≤ 13 - (if p ≤ 13 then p else 13)
  | [], p, h0, _ => by simp; split <;> omega
  | r :: l, p, h0, h => by
    rw [proper_step (i := 0)] at h
    split at h
    · cases h
    · rename_i hc
      have ih := proper_len l r.1 (by omega) h
      rw [if_pos (by omega)] at ih
      rw [if_pos (by omega)]
      simp only [List.length_cons]; push_cast; omega

theorem joinTail_len : ∀ (l : List Res), (Lib.joinTail [10] (l.map lineF)).length ≤ 42 * l.length
  | [] => by simp [Lib.joinTail]
  | r :: l => by
    have ih := joinTail_len l
    have h1 := chk_len r.1
    have h2 := vls_len r.2
    simp only [Lib.joinTail, List.map_cons, List.flatten_cons, List.length_append, List.length_cons, List.length_nil, lineF] at ih ⊢
    omega

set_option maxHeartbeats 8000000 in
set_option maxRecDepth 100000 in
theorem Text_spec (d : Decn) (hl : d.rs.length ≤ 1000000) (hr : -9223372036854775808 ≤ d.rule ∧ d.rule ≤ 9223372036854775807) (hv : -9223372036854775808 ≤ d.v ∧ d.v ≤ 9223372036854775807) (hrs : ∀ r, r ∈ d.rs → (-9223372036854775808 ≤ r.1 ∧ r.1 ≤ 9223372036854775807) ∧ (-9223372036854775808 ≤ r.2 ∧ r.2 ≤ 9223372036854775807)) :
    Spec Tryz.prog 18 [decAV d] [] (fun r h' => r = .d (.str (textF d)) ∧ h' = []) := by
  obtain ⟨v, rule, l⟩ := d
  simp only at hl hr hv hrs
  have hp := proper_spec l hl
  have hpl := proper_len l 0 (by omega)
  have hn := Name_spec vds v hv (by decide)
  have hnl := vds_len v
  have hi := Itoa_spec rule hr
  have hil := itoa_len rule
  have hlen := encRes_length l
  have hvs := Verdicts_spec
  have hcs := Checks_spec
  have hxs := Values_spec
  have hnc := fun n hn => Name_spec chk n hn (by decide)
  have hnx := fun n hn => Name_spec vls n hn (by decide)
  unfold textF textOk firstF decAV decCells
  simp only
  generalize nameOf vds v = nm at hn hnl
  generalize Lib.itoa rule = it at hi hil
  generalize properF 0 l = pb at hp hpl
  generalize strsAV vds = svd at hvs hn
  generalize strsAV chk = sck at hcs hnc
  generalize strsAV vls = svl at hxs hnx
  refine Spec_of_body hT Tryz.func18 rfl rfl rfl rfl ?_
  intro E hE
  repeat (first | refine wk hT rfl rfl ?_ | refine wd hT rfl rfl rfl ?_ | refine wz hT rfl ?_ | refine AWd_nil ?_ | refine AWk_nil ?_ | refine wh hT rfl rfl rfl rfl ?_ | refine wg hT rfl rfl rfl rfl rfl ?_ | refine AW_seq ?_ | refine AW_region ?_ | refine wx mixed ?_ | refine AW_block ?_ | refine AW_skip ?_ | refine AW_exit ?_ | refine AW_ret ?_)
  first | refine AWk_gop rfl rfl rfl (fun hg => ⟨(sg (C := True) hg).1, callS0 rfl rfl (hp) rfl rfl rfl⟩) ?_ | refine AWd_gop rfl rfl rfl rfl (fun hg => ⟨(sg (C := True) hg).1, callS0 rfl rfl (hp) rfl rfl rfl⟩) ?_
  repeat (first | refine wk hT rfl rfl ?_ | refine wd hT rfl rfl rfl ?_ | refine wz hT rfl ?_ | refine AWd_nil ?_ | refine AWk_nil ?_ | refine wh hT rfl rfl rfl rfl ?_ | refine wg hT rfl rfl rfl rfl rfl ?_ | refine AW_seq ?_ | refine AW_region ?_ | refine wx mixed ?_ | refine AW_block ?_ | refine AW_skip ?_ | refine AW_exit ?_ | refine AW_ret ?_)
  refine AW_condL rfl (fun h1 => ?_) (fun h1 => ?_)
  · have h1' : ¬ ((decide (1 ≤ v ∧ v ≤ 3 ∧ -1 ≤ rule ∧ rule < 32) && pb) = true) := by cases pb <;> simp at h1 ⊢; omega
    rw [if_neg h1']
    repeat (first | refine wk hT rfl rfl ?_ | refine wd hT rfl rfl rfl ?_ | refine wz hT rfl ?_ | refine AWd_nil ?_ | refine AWk_nil ?_ | refine wh hT rfl rfl rfl rfl ?_ | refine wg hT rfl rfl rfl rfl rfl ?_ | refine AW_seq ?_ | refine AW_region ?_ | refine wx mixed ?_ | refine AW_block ?_ | refine AW_skip ?_ | refine AW_exit ?_ | refine AW_ret ?_)
    first | exact rx ⟨rfl, rfl⟩ | exact rxN ⟨rfl, rfl⟩ | (refine rq ⟨rfl, rfl⟩ rfl ?_; repeat (first | exact trivial | exact AV.le.refl _ | exact AV.le.dat | exact AV.le.nils | exact AV.le.nilsf | exact AV.le.any _ | exact ObLe.refl _ | exact ⟨rfl, rfl⟩ | refine AV.le.tup ?_ | refine AV.le.agg ?_ | exact li | exact lb | exact ls | exact lk | exact ld | exact lz | refine ⟨?_, ?_⟩)) | (refine rqN ⟨rfl, rfl⟩ rfl ?_; repeat (first | exact trivial | exact AV.le.refl _ | exact AV.le.dat | exact AV.le.nils | exact AV.le.nilsf | exact AV.le.any _ | exact ObLe.refl _ | exact ⟨rfl, rfl⟩ | refine AV.le.tup ?_ | refine AV.le.agg ?_ | exact li | exact lb | exact ls | exact lk | exact ld | exact lz | refine ⟨?_, ?_⟩))
  · have h1' : (decide (1 ≤ v ∧ v ≤ 3 ∧ -1 ≤ rule ∧ rule < 32) && pb) = true := by cases pb <;> simp at h1 ⊢; omega
    rw [if_pos h1']
    simp only [Bool.and_eq_true, decide_eq_true_eq] at h1'
    obtain ⟨⟨g1, g2, g3, g4⟩, g5⟩ := h1'
    have hpl := hpl g5
    have hil := hil (by omega)
    repeat (first | refine wk hT rfl rfl ?_ | refine wd hT rfl rfl rfl ?_ | refine wz hT rfl ?_ | refine AWd_nil ?_ | refine AWk_nil ?_ | refine wh hT rfl rfl rfl rfl ?_ | refine wg hT rfl rfl rfl rfl rfl ?_ | refine AW_seq ?_ | refine AW_region ?_ | refine wx mixed ?_ | refine AW_block ?_ | refine AW_skip ?_ | refine AW_exit ?_ | refine AW_ret ?_)
    first | refine AWk_op (callS0 rfl rfl (hvs) rfl rfl rfl) rfl ?_ | refine AWd_op (callS0 rfl rfl (hvs) rfl rfl rfl) rfl rfl ?_ | refine AWk_op (callS0L rfl rfl (hvs) rfl (by repeat (first | exact trivial | exact AV.le.refl _ | exact AV.le.dat | exact AV.le.nils | exact AV.le.nilsf | exact AV.le.any _ | exact ObLe.refl _ | exact ⟨rfl, rfl⟩ | refine AV.le.tup ?_ | refine AV.le.agg ?_ | exact li | exact lb | exact ls | exact lk | exact ld | exact lz | refine ⟨?_, ?_⟩)) rfl rfl) rfl ?_ | refine AWd_op (callS0L rfl rfl (hvs) rfl (by repeat (first | exact trivial | exact AV.le.refl _ | exact AV.le.dat | exact AV.le.nils | exact AV.le.nilsf | exact AV.le.any _ | exact ObLe.refl _ | exact ⟨rfl, rfl⟩ | refine AV.le.tup ?_ | refine AV.le.agg ?_ | exact li | exact lb | exact ls | exact lk | exact ld | exact lz | refine ⟨?_, ?_⟩)) rfl rfl) rfl rfl ?_
    repeat (first | refine wk hT rfl rfl ?_ | refine wd hT rfl rfl rfl ?_ | refine wz hT rfl ?_ | refine AWd_nil ?_ | refine AWk_nil ?_ | refine wh hT rfl rfl rfl rfl ?_ | refine wg hT rfl rfl rfl rfl rfl ?_ | refine AW_seq ?_ | refine AW_region ?_ | refine wx mixed ?_ | refine AW_block ?_ | refine AW_skip ?_ | refine AW_exit ?_ | refine AW_ret ?_)
    first | refine AWk_op (callS0 rfl rfl (hn) rfl rfl rfl) rfl ?_ | refine AWd_op (callS0 rfl rfl (hn) rfl rfl rfl) rfl rfl ?_ | refine AWk_op (callS0L rfl rfl (hn) rfl (by repeat (first | exact trivial | exact AV.le.refl _ | exact AV.le.dat | exact AV.le.nils | exact AV.le.nilsf | exact AV.le.any _ | exact ObLe.refl _ | exact ⟨rfl, rfl⟩ | refine AV.le.tup ?_ | refine AV.le.agg ?_ | exact li | exact lb | exact ls | exact lk | exact ld | exact lz | refine ⟨?_, ?_⟩)) rfl rfl) rfl ?_ | refine AWd_op (callS0L rfl rfl (hn) rfl (by repeat (first | exact trivial | exact AV.le.refl _ | exact AV.le.dat | exact AV.le.nils | exact AV.le.nilsf | exact AV.le.any _ | exact ObLe.refl _ | exact ⟨rfl, rfl⟩ | refine AV.le.tup ?_ | refine AV.le.agg ?_ | exact li | exact lb | exact ls | exact lk | exact ld | exact lz | refine ⟨?_, ?_⟩)) rfl rfl) rfl rfl ?_
    repeat (first | refine wk hT rfl rfl ?_ | refine wd hT rfl rfl rfl ?_ | refine wz hT rfl ?_ | refine AWd_nil ?_ | refine AWk_nil ?_ | refine wh hT rfl rfl rfl rfl ?_ | refine wg hT rfl rfl rfl rfl rfl ?_ | refine AW_seq ?_ | refine AW_region ?_ | refine wx mixed ?_ | refine AW_block ?_ | refine AW_skip ?_ | refine AW_exit ?_ | refine AW_ret ?_)
    first | refine AWk_op (callS0 rfl rfl (hi) rfl rfl rfl) rfl ?_ | refine AWd_op (callS0 rfl rfl (hi) rfl rfl rfl) rfl rfl ?_ | refine AWk_op (callS0L rfl rfl (hi) rfl (by repeat (first | exact trivial | exact AV.le.refl _ | exact AV.le.dat | exact AV.le.nils | exact AV.le.nilsf | exact AV.le.any _ | exact ObLe.refl _ | exact ⟨rfl, rfl⟩ | refine AV.le.tup ?_ | refine AV.le.agg ?_ | exact li | exact lb | exact ls | exact lk | exact ld | exact lz | refine ⟨?_, ?_⟩)) rfl rfl) rfl ?_ | refine AWd_op (callS0L rfl rfl (hi) rfl (by repeat (first | exact trivial | exact AV.le.refl _ | exact AV.le.dat | exact AV.le.nils | exact AV.le.nilsf | exact AV.le.any _ | exact ObLe.refl _ | exact ⟨rfl, rfl⟩ | refine AV.le.tup ?_ | refine AV.le.agg ?_ | exact li | exact lb | exact ls | exact lk | exact ld | exact lz | refine ⟨?_, ?_⟩)) rfl rfl) rfl rfl ?_
    repeat (first | refine wk hT rfl rfl ?_ | refine wd hT rfl rfl rfl ?_ | refine wz hT rfl ?_ | refine AWd_nil ?_ | refine AWk_nil ?_ | refine wh hT rfl rfl rfl rfl ?_ | refine wg hT rfl rfl rfl rfl rfl ?_ | refine AW_seq ?_ | refine AW_region ?_ | refine wx mixed ?_ | refine AW_block ?_ | refine AW_skip ?_ | refine AW_exit ?_ | refine AW_ret ?_)
    generalize hfs : nm ++ [32] ++ it = fst
    have hfl : fst.length ≤ 24 := by rw [← hfs]; simp; omega
    refine AW_acquire 3 1 (es := strsAV [fst]) (.inl (by rw [← hfs]; rfl)) ?_
    have hrow : ∀ rs : List Res, strsAV (fst :: rs.map lineF) = strsAV [fst] ++ strsAV (rs.map lineF) := fun rs => by simp [strsAV]
    refine AW_loopC (ι := Nat) (fun i => [(3, .sl 1 (strsAV (fst :: (l.take i).map lineF)) (.right 1)), (41, .d (.sl 2 (encRes l))), (42, .d (.int .i64 ((encRes l).length : Int))), (43, .d (.int .i64 (i : Int)))])
      (fun i => [.row [.d (.int .i64 v), .d (.int .i64 rule), .d (.sl 2 (encRes l))], .right 1 (strsAV (fst :: (l.take i).map lineF)).length]) (fun i => i ≤ l.length) (fun i => l.length - i) 0 (by omega)
      ⟨.refl _, .refl _, .refl _, .refl _, trivial⟩ (HLe.refl _) ?_
    intro i hi2
    have hwr : IntKind.i64.wrap ((i : Int) + 1) = ((i + 1 : Nat) : Int) := by rw [wrap_id (by omega)]; omega
    have hsl : (strsAV (fst :: (l.take i).map lineF)).length ≤ 20 := by rw [strsAV_length]; simp; omega
    repeat (first | refine wk hT rfl rfl ?_ | refine wd hT rfl rfl rfl ?_ | refine wz hT rfl ?_ | refine AWd_nil ?_ | refine AWk_nil ?_ | refine wh hT rfl rfl rfl rfl ?_ | refine wg hT rfl rfl rfl rfl rfl ?_ | refine AW_seq ?_ | refine AW_region ?_ | refine wx mixed ?_ | refine AW_block ?_ | refine AW_skip ?_ | refine AW_exit ?_ | refine AW_ret ?_)
    refine AW_condL rfl (fun h2 => ?_) (fun h2 => ?_)
    · have hlt : i < l.length := by rw [hlen] at h2; simpa using h2
      have hel := encRes_at hlt
      have hsucc : strsAV (fst :: (l.take (i + 1)).map lineF) = strsAV (fst :: (l.take i).map lineF) ++ [[.str (lineF l[i])]] := by
        rw [List.take_succ_eq_append_getElem hlt, List.map_append, ← List.cons_append]
        simp only [strsAV, List.map_append]
        rfl
      have hrr := hrs l[i] (List.getElem_mem hlt)
      generalize l[i] = r at hel hsucc hrr
      obtain ⟨a, b⟩ := r
      have hna := hnc a hrr.1
      have hnb := hnx b hrr.2
      have hla := chk_len a
      have hlb := vls_len b
      simp only [lineF] at hel hsucc
      generalize nameOf chk a = na at hna hla hsucc
      generalize nameOf vls b = nb at hnb hlb hsucc
      generalize strsAV (fst :: (l.take i).map lineF) = s1 at hsl hsucc ⊢
      repeat (first | refine wk hT rfl rfl ?_ | refine wd hT rfl rfl rfl ?_ | refine wz hT rfl ?_ | refine AWd_nil ?_ | refine AWk_nil ?_ | refine wh hT rfl rfl rfl rfl ?_ | refine wg hT rfl rfl rfl rfl rfl ?_ | refine AW_seq ?_ | refine AW_region ?_ | refine AW_block ?_ | refine AW_skip ?_ | refine AW_exit ?_ | refine AW_ret ?_)
      first | refine AWk_op (OpS_of_pure (indexAddr_ok hT rfl rfl rfl rfl (by omega) (hel))) rfl ?_ | refine AWd_op (OpS_of_pure (indexAddr_ok hT rfl rfl rfl rfl (by omega) (hel))) rfl rfl ?_
      repeat (first | refine wk hT rfl rfl ?_ | refine wd hT rfl rfl rfl ?_ | refine wz hT rfl ?_ | refine AWd_nil ?_ | refine AWk_nil ?_ | refine wh hT rfl rfl rfl rfl ?_ | refine wg hT rfl rfl rfl rfl rfl ?_ | refine AW_seq ?_ | refine AW_region ?_ | refine AW_block ?_ | refine AW_skip ?_ | refine AW_exit ?_ | refine AW_ret ?_)
      refine AW_drawG (fun i => bif Nat.beq i 3 || Nat.beq i 8 then [2] else bif Nat.beq i 12 then [1] else []) (fun i => bif Nat.beq i 12 then [1] else []) mixed (by kernel_rfl) ?_
      repeat (first | refine AWg_load hT rfl rfl rfl rfl (by first | exact List.mem_cons_self | exact sm) rfl ?_ | refine AWg_pure hT (fun _ => rfl) rfl rfl (by first | exact True.intro | omega | exact sd) ?_ | refine AWg_store hT rfl rfl rfl (by first | exact List.mem_cons_self | exact sm) rfl ?_ | refine AWd_nil ?_)
      refine AWg_op (os := []) (fun k hk1 hk2 => callS0 rfl rfl (hcs) rfl rfl rfl) rfl ?_
      repeat (first | refine AWg_load hT rfl rfl rfl rfl (by first | exact List.mem_cons_self | exact sm) rfl ?_ | refine AWg_pure hT (fun _ => rfl) rfl rfl (by first | exact True.intro | omega | exact sd) ?_ | refine AWg_store hT rfl rfl rfl (by first | exact List.mem_cons_self | exact sm) rfl ?_ | refine AWd_nil ?_)
      refine AWg_op (os := []) (fun k hk1 hk2 => callS0 rfl rfl (hna) rfl rfl rfl) rfl ?_
      repeat (first | refine AWg_load hT rfl rfl rfl rfl (by first | exact List.mem_cons_self | exact sm) rfl ?_ | refine AWg_pure hT (fun _ => rfl) rfl rfl (by first | exact True.intro | omega | exact sd) ?_ | refine AWg_store hT rfl rfl rfl (by first | exact List.mem_cons_self | exact sm) rfl ?_ | refine AWd_nil ?_)
      refine AWg_op (os := []) (fun k hk1 hk2 => callS0 rfl rfl (hxs) rfl rfl rfl) rfl ?_
      repeat (first | refine AWg_load hT rfl rfl rfl rfl (by first | exact List.mem_cons_self | exact sm) rfl ?_ | refine AWg_pure hT (fun _ => rfl) rfl rfl (by first | exact True.intro | omega | exact sd) ?_ | refine AWg_store hT rfl rfl rfl (by first | exact List.mem_cons_self | exact sm) rfl ?_ | refine AWd_nil ?_)
      refine AWg_op (os := []) (fun k hk1 hk2 => callS0 rfl rfl (hnb) rfl rfl rfl) rfl ?_
      repeat (first | refine AWg_load hT rfl rfl rfl rfl (by first | exact List.mem_cons_self | exact sm) rfl ?_ | refine AWg_pure hT (fun _ => rfl) rfl rfl (by first | exact True.intro | omega | exact sd) ?_ | refine AWg_store hT rfl rfl rfl (by first | exact List.mem_cons_self | exact sm) rfl ?_ | refine AWd_nil ?_)
      refine AWg_op (os := []) (fun k hk1 hk2 => buildSl_ok hT rfl rfl) rfl ?_
      refine AWg_op (v := .sl 1 (s1 ++ [[.str (na ++ [32] ++ nb)]]) (.right 1)) (os := [.right 1 (s1 ++ [[Dat.str (na ++ [32] ++ nb)]]).length]) (fun k hk1 hk2 => append_rightL (i := 1) hT rfl rfl rfl rfl ((hk2 1 List.mem_cons_self).trans rfl) rfl (by show (s1.length + 1) * (16 + 1) ≤ _; omega)) rfl ?_
      repeat (first | refine AWg_load hT rfl rfl rfl rfl (by first | exact List.mem_cons_self | exact sm) rfl ?_ | refine AWg_pure hT (fun _ => rfl) rfl rfl (by first | exact True.intro | omega | exact sd) ?_ | refine AWg_store hT rfl rfl rfl (by first | exact List.mem_cons_self | exact sm) rfl ?_ | refine AWd_nil ?_)
      repeat (first | refine wk hT rfl rfl ?_ | refine wd hT rfl rfl rfl ?_ | refine wz hT rfl ?_ | refine AWd_nil ?_ | refine AWk_nil ?_ | refine wh hT rfl rfl rfl rfl ?_ | refine wg hT rfl rfl rfl rfl rfl ?_ | refine AW_seq ?_ | refine AW_region ?_ | refine wx mixed ?_ | refine AW_block ?_ | refine AW_skip ?_ | refine AW_exit ?_ | refine AW_ret ?_)
      exact ⟨i + 1, [_], by omega, by omega, ⟨.slt hsucc.symm, .refl _, .refl _, .int hwr, trivial⟩, ⟨ObLe.refl _, ⟨rfl, by rw [hsucc]⟩, ObLe.refl _, trivial⟩, Env.below_mono hE (by simp), rfl, rfl⟩
    · have hge : i = l.length := by rw [hlen] at h2; simp at h2; omega
      subst hge
      rw [List.take_length]
      have hjl := joinTail_len l
      have hJ := Join_spec (fst :: l.map lineF) [10] (by simp; omega) (by rw [Lib.join_cons, List.length_append]; omega)
      generalize Lib.join (fst :: l.map lineF) [10] = jj at hJ
      generalize strsAV (fst :: l.map lineF) = s1 at hJ hsl ⊢
      refine AW_subL (l := [(3, .d (.sl 1 s1))]) (h' := [.dead, .dead]) ⟨.dat, trivial⟩ ⟨trivial, trivial, trivial⟩ ?_
      repeat (first | refine wk hT rfl rfl ?_ | refine wd hT rfl rfl rfl ?_ | refine wz hT rfl ?_ | refine AWd_nil ?_ | refine AWk_nil ?_ | refine wh hT rfl rfl rfl rfl ?_ | refine wg hT rfl rfl rfl rfl rfl ?_ | refine AW_seq ?_ | refine AW_region ?_ | refine wx mixed ?_ | refine AW_block ?_ | refine AW_skip ?_ | refine AW_exit ?_ | refine AW_ret ?_)
      first | refine AWk_op (callS0 rfl rfl (hJ) rfl rfl rfl) rfl ?_ | refine AWd_op (callS0 rfl rfl (hJ) rfl rfl rfl) rfl rfl ?_ | refine AWk_op (callS0L rfl rfl (hJ) rfl (by repeat (first | exact trivial | exact AV.le.refl _ | exact AV.le.dat | exact AV.le.nils | exact AV.le.nilsf | exact AV.le.any _ | exact ObLe.refl _ | exact ⟨rfl, rfl⟩ | refine AV.le.tup ?_ | refine AV.le.agg ?_ | exact li | exact lb | exact ls | exact lk | exact ld | exact lz | refine ⟨?_, ?_⟩)) rfl rfl) rfl ?_ | refine AWd_op (callS0L rfl rfl (hJ) rfl (by repeat (first | exact trivial | exact AV.le.refl _ | exact AV.le.dat | exact AV.le.nils | exact AV.le.nilsf | exact AV.le.any _ | exact ObLe.refl _ | exact ⟨rfl, rfl⟩ | refine AV.le.tup ?_ | refine AV.le.agg ?_ | exact li | exact lb | exact ls | exact lk | exact ld | exact lz | refine ⟨?_, ?_⟩)) rfl rfl) rfl rfl ?_
      repeat (first | refine wk hT rfl rfl ?_ | refine wd hT rfl rfl rfl ?_ | refine wz hT rfl ?_ | refine AWd_nil ?_ | refine AWk_nil ?_ | refine wh hT rfl rfl rfl rfl ?_ | refine wg hT rfl rfl rfl rfl rfl ?_ | refine AW_seq ?_ | refine AW_region ?_ | refine wx mixed ?_ | refine AW_block ?_ | refine AW_skip ?_ | refine AW_exit ?_ | refine AW_ret ?_)
      first | exact rx ⟨rfl, rfl⟩ | exact rxN ⟨rfl, rfl⟩ | (refine rq ⟨rfl, rfl⟩ rfl ?_; repeat (first | exact trivial | exact AV.le.refl _ | exact AV.le.dat | exact AV.le.nils | exact AV.le.nilsf | exact AV.le.any _ | exact ObLe.refl _ | exact ⟨rfl, rfl⟩ | refine AV.le.tup ?_ | refine AV.le.agg ?_ | exact li | exact lb | exact ls | exact lk | exact ld | exact lz | refine ⟨?_, ?_⟩)) | (refine rqN ⟨rfl, rfl⟩ rfl ?_; repeat (first | exact trivial | exact AV.le.refl _ | exact AV.le.dat | exact AV.le.nils | exact AV.le.nilsf | exact AV.le.any _ | exact ObLe.refl _ | exact ⟨rfl, rfl⟩ | refine AV.le.tup ?_ | refine AV.le.agg ?_ | exact li | exact lb | exact ls | exact lk | exact ld | exact lz | refine ⟨?_, ?_⟩))

theorem decDigits_small {u : Nat} (h : u < 10) : Lib.decDigits u = [UInt8.ofNat (48 + u)] := by rw [Lib.decDigits, dif_pos h]
theorem decDigits_big {u : Nat} (h : ¬ u < 10) : Lib.decDigits u = Lib.decDigits (u / 10) ++ Lib.decDigits (u % 10) := by
  rw [Lib.decDigits, dif_neg h, decDigits_small (u := u % 10) (by omega)]
theorem decDigits_len : ∀ (m u : Nat), u < 10 ^ m → (Lib.decDigits u).length ≤ m + 1
  | 0, u, h => by rw [decDigits_small (by simp at h; omega)]; simp
  | m + 1, u, h => by
    by_cases h10 : u < 10
    · rw [decDigits_small h10]; simp
    · rw [decDigits_big h10, decDigits_small (u := u % 10) (by omega), List.length_append]
      have := decDigits_len m (u / 10) (by rw [Nat.pow_succ] at h; omega)
      simp; omega

set_option maxHeartbeats 8000000 in
set_option maxRecDepth 100000 in
theorem decimalN_spec (n : Nat) : n < 10 ^ 18 → Spec Tryz.prog 46 [.d (.int .i64 (n : Int))] [] (fun r h' => r = .d (.str (Lib.decDigits n)) ∧ h' = []) := by
  induction n using Nat.strongRecOn with
  | _ n ih =>
  intro hn
  refine Spec_of_body hT Tryz.func46 rfl rfl rfl rfl ?_
  intro E hE
  repeat (first | refine wk hT rfl rfl ?_ | refine wd hT rfl rfl rfl ?_ | refine wz hT rfl ?_ | refine AWd_nil ?_ | refine AWk_nil ?_ | refine wh hT rfl rfl rfl rfl ?_ | refine wg hT rfl rfl rfl rfl rfl ?_ | refine AW_seq ?_ | refine AW_region ?_ | refine wx mixed ?_ | refine AW_block ?_ | refine AW_skip ?_ | refine AW_exit ?_ | refine AW_ret ?_)
  refine AW_condL rfl (fun h1 => ?_) (fun h1 => ?_)
  · exact absurd h1 (by simp)
  · repeat (first | refine wk hT rfl rfl ?_ | refine wd hT rfl rfl rfl ?_ | refine wz hT rfl ?_ | refine AWd_nil ?_ | refine AWk_nil ?_ | refine wh hT rfl rfl rfl rfl ?_ | refine wg hT rfl rfl rfl rfl rfl ?_ | refine AW_seq ?_ | refine AW_region ?_ | refine wx mixed ?_ | refine AW_block ?_ | refine AW_skip ?_ | refine AW_exit ?_ | refine AW_ret ?_)
    refine AW_condL rfl (fun h2 => ?_) (fun h2 => ?_)
    · have h2' : n < 10 := by simp at h2; omega
      have hb : IntKind.u8.wrap (IntKind.i64.wrap (48 + (n : Int))) = ((UInt8.ofNat (48 + n)).toNat : Int) := by rw [wrap_id (by omega), wrapu8 (by omega)]; simp; omega
      rw [decDigits_small h2']
      refine AW_seq (AW_region ?_)
      repeat (first | refine wk hT rfl rfl ?_ | refine wd hT rfl rfl rfl ?_ | refine wz hT rfl ?_ | refine AWd_nil ?_ | refine AWk_nil ?_ | refine wh hT rfl rfl rfl rfl ?_ | refine wg hT rfl rfl rfl rfl rfl ?_)
      refine AWk_step hT rfl rfl (fun e he => ⟨IntKind.u8.wrap (IntKind.i64.wrap (48 + (n : Int))), List.mem_singleton.1 he⟩) ?_
      repeat (first | refine wk hT rfl rfl ?_ | refine wd hT rfl rfl rfl ?_ | refine wz hT rfl ?_ | refine AWd_nil ?_ | refine AWk_nil ?_ | refine wh hT rfl rfl rfl rfl ?_ | refine wg hT rfl rfl rfl rfl rfl ?_ | refine AW_seq ?_ | refine AW_region ?_ | refine wx mixed ?_ | refine AW_block ?_ | refine AW_skip ?_ | refine AW_exit ?_ | refine AW_ret ?_)
      exact rq ⟨rfl, rfl⟩ rfl (lz (by show [UInt8.ofNat (IntKind.u8.wrap (IntKind.i64.wrap (48 + (n : Int)))).toNat] = _; rw [hb, Int.toNat_natCast, UInt8.ofNat_toNat]))
    · have h2' : ¬ n < 10 := by simp at h2; omega
      rw [decDigits_big h2']
      have i1 := ih (n / 10) (by omega) (by omega)
      have i2 := ih (n % 10) (by omega) (by omega)
      have l1 := decDigits_len 18 (n / 10) (by omega)
      have l2 := decDigits_len 18 (n % 10) (by omega)
      have q1 : IntKind.i64.wrap ((n : Int).tdiv 10) = ((n / 10 : Nat) : Int) := by rw [show (n : Int).tdiv 10 = ((n / 10 : Nat) : Int) from rfl, wrap_id (by omega)]
      have q2 : (n : Int).tmod 10 = ((n % 10 : Nat) : Int) := rfl
      generalize Lib.decDigits (n / 10) = d1 at i1 l1
      generalize Lib.decDigits (n % 10) = d2 at i2 l2
      rw [← q1] at i1
      rw [← q2] at i2
      repeat (first | refine wk hT rfl rfl ?_ | refine wd hT rfl rfl rfl ?_ | refine wz hT rfl ?_ | refine AWd_nil ?_ | refine AWk_nil ?_ | refine wh hT rfl rfl rfl rfl ?_ | refine wg hT rfl rfl rfl rfl rfl ?_ | refine AW_seq ?_ | refine AW_region ?_ | refine wx mixed ?_ | refine AW_block ?_ | refine AW_skip ?_ | refine AW_exit ?_ | refine AW_ret ?_)
      first | refine AWk_op (callS0 rfl rfl (i1) rfl rfl rfl) rfl ?_ | refine AWd_op (callS0 rfl rfl (i1) rfl rfl rfl) rfl rfl ?_ | refine AWk_op (callS0L rfl rfl (i1) rfl (by repeat (first | exact trivial | exact AV.le.refl _ | exact AV.le.dat | exact AV.le.nils | exact AV.le.nilsf | exact AV.le.any _ | exact ObLe.refl _ | exact ⟨rfl, rfl⟩ | refine AV.le.tup ?_ | refine AV.le.agg ?_ | exact li | exact lb | exact ls | exact lk | exact ld | exact lz | refine ⟨?_, ?_⟩)) rfl rfl) rfl ?_ | refine AWd_op (callS0L rfl rfl (i1) rfl (by repeat (first | exact trivial | exact AV.le.refl _ | exact AV.le.dat | exact AV.le.nils | exact AV.le.nilsf | exact AV.le.any _ | exact ObLe.refl _ | exact ⟨rfl, rfl⟩ | refine AV.le.tup ?_ | refine AV.le.agg ?_ | exact li | exact lb | exact ls | exact lk | exact ld | exact lz | refine ⟨?_, ?_⟩)) rfl rfl) rfl rfl ?_
      repeat (first | refine wk hT rfl rfl ?_ | refine wd hT rfl rfl rfl ?_ | refine wz hT rfl ?_ | refine AWd_nil ?_ | refine AWk_nil ?_ | refine wh hT rfl rfl rfl rfl ?_ | refine wg hT rfl rfl rfl rfl rfl ?_ | refine AW_seq ?_ | refine AW_region ?_ | refine wx mixed ?_ | refine AW_block ?_ | refine AW_skip ?_ | refine AW_exit ?_ | refine AW_ret ?_)
      first | refine AWk_op (callS0 rfl rfl (i2) rfl rfl rfl) rfl ?_ | refine AWd_op (callS0 rfl rfl (i2) rfl rfl rfl) rfl rfl ?_ | refine AWk_op (callS0L rfl rfl (i2) rfl (by repeat (first | exact trivial | exact AV.le.refl _ | exact AV.le.dat | exact AV.le.nils | exact AV.le.nilsf | exact AV.le.any _ | exact ObLe.refl _ | exact ⟨rfl, rfl⟩ | refine AV.le.tup ?_ | refine AV.le.agg ?_ | exact li | exact lb | exact ls | exact lk | exact ld | exact lz | refine ⟨?_, ?_⟩)) rfl rfl) rfl ?_ | refine AWd_op (callS0L rfl rfl (i2) rfl (by repeat (first | exact trivial | exact AV.le.refl _ | exact AV.le.dat | exact AV.le.nils | exact AV.le.nilsf | exact AV.le.any _ | exact ObLe.refl _ | exact ⟨rfl, rfl⟩ | refine AV.le.tup ?_ | refine AV.le.agg ?_ | exact li | exact lb | exact ls | exact lk | exact ld | exact lz | refine ⟨?_, ?_⟩)) rfl rfl) rfl rfl ?_
      repeat (first | refine wk hT rfl rfl ?_ | refine wd hT rfl rfl rfl ?_ | refine wz hT rfl ?_ | refine AWd_nil ?_ | refine AWk_nil ?_ | refine wh hT rfl rfl rfl rfl ?_ | refine wg hT rfl rfl rfl rfl rfl ?_ | refine AW_seq ?_ | refine AW_region ?_ | refine wx mixed ?_ | refine AW_block ?_ | refine AW_skip ?_ | refine AW_exit ?_ | refine AW_ret ?_)
      first | exact rx ⟨rfl, rfl⟩ | exact rxN ⟨rfl, rfl⟩ | (refine rq ⟨rfl, rfl⟩ rfl ?_; repeat (first | exact trivial | exact AV.le.refl _ | exact AV.le.dat | exact AV.le.nils | exact AV.le.nilsf | exact AV.le.any _ | exact ObLe.refl _ | exact ⟨rfl, rfl⟩ | refine AV.le.tup ?_ | refine AV.le.agg ?_ | exact li | exact lb | exact ls | exact lk | exact ld | exact lz | refine ⟨?_, ?_⟩)) | (refine rqN ⟨rfl, rfl⟩ rfl ?_; repeat (first | exact trivial | exact AV.le.refl _ | exact AV.le.dat | exact AV.le.nils | exact AV.le.nilsf | exact AV.le.any _ | exact ObLe.refl _ | exact ⟨rfl, rfl⟩ | refine AV.le.tup ?_ | refine AV.le.agg ?_ | exact li | exact lb | exact ls | exact lk | exact ld | exact lz | refine ⟨?_, ?_⟩))
end Tdoc
/- The text of a decision: of the reference. -/
set_option linter.unusedVariables false
set_option linter.unusedSimpArgs false
namespace Tdoc
open Go Go.Proofs

set_option maxHeartbeats 8000000 in
set_option maxRecDepth 100000 in
theorem decimalNeg_spec : Spec Tryz.prog 46 [.d (.int .i64 (-1))] [] (fun r h' => r = .d (.str [45, 49]) ∧ h' = []) := by
  have h := decimalN_spec 1 (by omega)
  rw [decDigits_small (by omega), show ((1 : Nat) : Int) = IntKind.i64.wrap (0 - -1) by decide] at h
  generalize hx : [UInt8.ofNat (48 + 1)] = x at h
  have hxl : x.length = 1 := by rw [← hx]; rfl
  refine Spec_of_body hT Tryz.func46 rfl rfl rfl rfl ?_
  intro E hE
  repeat (first | refine wk hT rfl rfl ?_ | refine wd hT rfl rfl rfl ?_ | refine wz hT rfl ?_ | refine AWd_nil ?_ | refine AWk_nil ?_ | refine wh hT rfl rfl rfl rfl ?_ | refine wg hT rfl rfl rfl rfl rfl ?_ | refine AW_seq ?_ | refine AW_region ?_ | refine wx mixed ?_ | refine AW_block ?_ | refine AW_skip ?_ | refine AW_exit ?_ | refine AW_ret ?_)
  refine AW_condL rfl (fun h1 => ?_) (fun h1 => ?_)
  · repeat (first | refine wk hT rfl rfl ?_ | refine wd hT rfl rfl rfl ?_ | refine wz hT rfl ?_ | refine AWd_nil ?_ | refine AWk_nil ?_ | refine wh hT rfl rfl rfl rfl ?_ | refine wg hT rfl rfl rfl rfl rfl ?_ | refine AW_seq ?_ | refine AW_region ?_ | refine wx mixed ?_ | refine AW_block ?_ | refine AW_skip ?_ | refine AW_exit ?_ | refine AW_ret ?_)
    first | refine AWk_op (callS0 rfl rfl (h) rfl rfl rfl) rfl ?_ | refine AWd_op (callS0 rfl rfl (h) rfl rfl rfl) rfl rfl ?_ | refine AWk_op (callS0L rfl rfl (h) rfl (by repeat (first | exact trivial | exact AV.le.refl _ | exact AV.le.dat | exact AV.le.nils | exact AV.le.nilsf | exact AV.le.any _ | exact ObLe.refl _ | exact ⟨rfl, rfl⟩ | refine AV.le.tup ?_ | refine AV.le.agg ?_ | exact li | exact lb | exact ls | exact lk | exact ld | exact lz | refine ⟨?_, ?_⟩)) rfl rfl) rfl ?_ | refine AWd_op (callS0L rfl rfl (h) rfl (by repeat (first | exact trivial | exact AV.le.refl _ | exact AV.le.dat | exact AV.le.nils | exact AV.le.nilsf | exact AV.le.any _ | exact ObLe.refl _ | exact ⟨rfl, rfl⟩ | refine AV.le.tup ?_ | refine AV.le.agg ?_ | exact li | exact lb | exact ls | exact lk | exact ld | exact lz | refine ⟨?_, ?_⟩)) rfl rfl) rfl rfl ?_
    repeat (first | refine wk hT rfl rfl ?_ | refine wd hT rfl rfl rfl ?_ | refine wz hT rfl ?_ | refine AWd_nil ?_ | refine AWk_nil ?_ | refine wh hT rfl rfl rfl rfl ?_ | refine wg hT rfl rfl rfl rfl rfl ?_ | refine AW_seq ?_ | refine AW_region ?_ | refine wx mixed ?_ | refine AW_block ?_ | refine AW_skip ?_ | refine AW_exit ?_ | refine AW_ret ?_)
    exact rq ⟨rfl, rfl⟩ rfl (lz rfl)
  · exact absurd h1 (by simp)

theorem decimal_spec (n : Int) (hn : -1 ≤ n ∧ n < 10 ^ 18) : Spec Tryz.prog 46 [.d (.int .i64 n)] [] (fun r h' => r = .d (.str (Lib.itoa n)) ∧ h' = []) := by
  by_cases h0 : 0 ≤ n
  · have h := decimalN_spec n.toNat (by omega)
    rw [Int.toNat_of_nonneg h0] at h
    unfold Lib.itoa
    rw [if_neg (by omega)]
    exact h
  · have : n = -1 := by omega
    subst this
    have : Lib.itoa (-1) = [45, 49] := by rw [Lib.itoa, if_pos (by omega)]; show 45 :: Lib.decDigits 1 = _; rw [decDigits_small (by omega)]; rfl
    rw [this]
    exact decimalNeg_spec

set_option maxHeartbeats 8000000 in
set_option maxRecDepth 100000 in
theorem TextR_spec (d : Decn) (hl : d.rs.length ≤ 1000000) (hr : -9223372036854775808 ≤ d.rule ∧ d.rule ≤ 9223372036854775807) (hv : -9223372036854775808 ≤ d.v ∧ d.v ≤ 9223372036854775807) (hrs : ∀ r, r ∈ d.rs → (-9223372036854775808 ≤ r.1 ∧ r.1 ≤ 9223372036854775807) ∧ (-9223372036854775808 ≤ r.2 ∧ r.2 ≤ 9223372036854775807)) :
    Spec Tryz.prog 19 [decAV d] [] (fun r h' => r = .d (.str (textF d)) ∧ h' = []) := by
  obtain ⟨v, rule, l⟩ := d
  simp only at hl hr hv hrs
  have hp := properR_spec l hl
  have hpl := proper_len l 0 (by omega)
  have hn := VerdictR_spec v
  have hnl := vds_len v
  have hne := vds_empty v
  have hi := fun hh => decimal_spec rule hh
  have hil := itoa_len rule
  have hlen := encRes_length l
  have hnc := CheckR_spec
  have hnx := ValueR_spec
  unfold textF textOk firstF decAV decCells
  simp only
  generalize nameOf vds v = nm at hn hnl hne
  generalize Lib.itoa rule = it at hi hil
  generalize properF 0 l = pb at hp hpl
  refine Spec_of_body hT Tryz.func19 rfl rfl rfl rfl ?_
  intro E hE
  repeat (first | refine wk hT rfl rfl ?_ | refine wd hT rfl rfl rfl ?_ | refine wz hT rfl ?_ | refine AWd_nil ?_ | refine AWk_nil ?_ | refine wh hT rfl rfl rfl rfl ?_ | refine wg hT rfl rfl rfl rfl rfl ?_ | refine AW_seq ?_ | refine AW_region ?_ | refine wx mixed ?_ | refine AW_block ?_ | refine AW_skip ?_ | refine AW_exit ?_ | refine AW_ret ?_)
  first | refine AWk_op (callS0 rfl rfl (hn) rfl rfl rfl) rfl ?_ | refine AWd_op (callS0 rfl rfl (hn) rfl rfl rfl) rfl rfl ?_ | refine AWk_op (callS0L rfl rfl (hn) rfl (by repeat (first | exact trivial | exact AV.le.refl _ | exact AV.le.dat | exact AV.le.nils | exact AV.le.nilsf | exact AV.le.any _ | exact ObLe.refl _ | exact ⟨rfl, rfl⟩ | refine AV.le.tup ?_ | refine AV.le.agg ?_ | exact li | exact lb | exact ls | exact lk | exact ld | exact lz | refine ⟨?_, ?_⟩)) rfl rfl) rfl ?_ | refine AWd_op (callS0L rfl rfl (hn) rfl (by repeat (first | exact trivial | exact AV.le.refl _ | exact AV.le.dat | exact AV.le.nils | exact AV.le.nilsf | exact AV.le.any _ | exact ObLe.refl _ | exact ⟨rfl, rfl⟩ | refine AV.le.tup ?_ | refine AV.le.agg ?_ | exact li | exact lb | exact ls | exact lk | exact ld | exact lz | refine ⟨?_, ?_⟩)) rfl rfl) rfl rfl ?_
  repeat (first | refine wk hT rfl rfl ?_ | refine wd hT rfl rfl rfl ?_ | refine wz hT rfl ?_ | refine AWd_nil ?_ | refine AWk_nil ?_ | refine wh hT rfl rfl rfl rfl ?_ | refine wg hT rfl rfl rfl rfl rfl ?_ | refine AW_seq ?_ | refine AW_region ?_ | refine wx mixed ?_ | refine AW_block ?_ | refine AW_skip ?_ | refine AW_exit ?_ | refine AW_ret ?_)
  first | refine AWk_gop rfl rfl rfl (fun hg => ⟨(sg (C := True) hg).1, callS0 rfl rfl (hp) rfl rfl rfl⟩) ?_ | refine AWd_gop rfl rfl rfl rfl (fun hg => ⟨(sg (C := True) hg).1, callS0 rfl rfl (hp) rfl rfl rfl⟩) ?_
  repeat (first | refine wk hT rfl rfl ?_ | refine wd hT rfl rfl rfl ?_ | refine wz hT rfl ?_ | refine AWd_nil ?_ | refine AWk_nil ?_ | refine wh hT rfl rfl rfl rfl ?_ | refine wg hT rfl rfl rfl rfl rfl ?_ | refine AW_seq ?_ | refine AW_region ?_ | refine wx mixed ?_ | refine AW_block ?_ | refine AW_skip ?_ | refine AW_exit ?_ | refine AW_ret ?_)
  refine AW_condL rfl (fun h1 => ?_) (fun h1 => ?_)
  · have h1' : ¬ ((decide (1 ≤ v ∧ v ≤ 3 ∧ -1 ≤ rule ∧ rule < 32) && pb) = true) := by
      rw [hne] at h1
      cases pb <;> simp at h1 ⊢; omega
    rw [if_neg h1']
    repeat (first | refine wk hT rfl rfl ?_ | refine wd hT rfl rfl rfl ?_ | refine wz hT rfl ?_ | refine AWd_nil ?_ | refine AWk_nil ?_ | refine wh hT rfl rfl rfl rfl ?_ | refine wg hT rfl rfl rfl rfl rfl ?_ | refine AW_seq ?_ | refine AW_region ?_ | refine wx mixed ?_ | refine AW_block ?_ | refine AW_skip ?_ | refine AW_exit ?_ | refine AW_ret ?_)
    first | exact rx ⟨rfl, rfl⟩ | exact rxN ⟨rfl, rfl⟩ | (refine rq ⟨rfl, rfl⟩ rfl ?_; repeat (first | exact trivial | exact AV.le.refl _ | exact AV.le.dat | exact AV.le.nils | exact AV.le.nilsf | exact AV.le.any _ | exact ObLe.refl _ | exact ⟨rfl, rfl⟩ | refine AV.le.tup ?_ | refine AV.le.agg ?_ | exact li | exact lb | exact ls | exact lk | exact ld | exact lz | refine ⟨?_, ?_⟩)) | (refine rqN ⟨rfl, rfl⟩ rfl ?_; repeat (first | exact trivial | exact AV.le.refl _ | exact AV.le.dat | exact AV.le.nils | exact AV.le.nilsf | exact AV.le.any _ | exact ObLe.refl _ | exact ⟨rfl, rfl⟩ | refine AV.le.tup ?_ | refine AV.le.agg ?_ | exact li | exact lb | exact ls | exact lk | exact ld | exact lz | refine ⟨?_, ?_⟩))
  · have h1' : (decide (1 ≤ v ∧ v ≤ 3 ∧ -1 ≤ rule ∧ rule < 32) && pb) = true := by
      rw [hne] at h1
      cases pb <;> simp at h1 ⊢; omega
    rw [if_pos h1']
    simp only [Bool.and_eq_true, decide_eq_true_eq] at h1'
    obtain ⟨⟨g1, g2, g3, g4⟩, g5⟩ := h1'
    have hpl := hpl g5
    have hil := hil (by omega)
    have hi := hi (by omega)
    repeat (first | refine wk hT rfl rfl ?_ | refine wd hT rfl rfl rfl ?_ | refine wz hT rfl ?_ | refine AWd_nil ?_ | refine AWk_nil ?_ | refine wh hT rfl rfl rfl rfl ?_ | refine wg hT rfl rfl rfl rfl rfl ?_ | refine AW_seq ?_ | refine AW_region ?_ | refine wx mixed ?_ | refine AW_block ?_ | refine AW_skip ?_ | refine AW_exit ?_ | refine AW_ret ?_)
    first | refine AWk_op (callS0 rfl rfl (hn) rfl rfl rfl) rfl ?_ | refine AWd_op (callS0 rfl rfl (hn) rfl rfl rfl) rfl rfl ?_ | refine AWk_op (callS0L rfl rfl (hn) rfl (by repeat (first | exact trivial | exact AV.le.refl _ | exact AV.le.dat | exact AV.le.nils | exact AV.le.nilsf | exact AV.le.any _ | exact ObLe.refl _ | exact ⟨rfl, rfl⟩ | refine AV.le.tup ?_ | refine AV.le.agg ?_ | exact li | exact lb | exact ls | exact lk | exact ld | exact lz | refine ⟨?_, ?_⟩)) rfl rfl) rfl ?_ | refine AWd_op (callS0L rfl rfl (hn) rfl (by repeat (first | exact trivial | exact AV.le.refl _ | exact AV.le.dat | exact AV.le.nils | exact AV.le.nilsf | exact AV.le.any _ | exact ObLe.refl _ | exact ⟨rfl, rfl⟩ | refine AV.le.tup ?_ | refine AV.le.agg ?_ | exact li | exact lb | exact ls | exact lk | exact ld | exact lz | refine ⟨?_, ?_⟩)) rfl rfl) rfl rfl ?_
    repeat (first | refine wk hT rfl rfl ?_ | refine wd hT rfl rfl rfl ?_ | refine wz hT rfl ?_ | refine AWd_nil ?_ | refine AWk_nil ?_ | refine wh hT rfl rfl rfl rfl ?_ | refine wg hT rfl rfl rfl rfl rfl ?_ | refine AW_seq ?_ | refine AW_region ?_ | refine wx mixed ?_ | refine AW_block ?_ | refine AW_skip ?_ | refine AW_exit ?_ | refine AW_ret ?_)
    first | refine AWk_op (callS0 rfl rfl (hi) rfl rfl rfl) rfl ?_ | refine AWd_op (callS0 rfl rfl (hi) rfl rfl rfl) rfl rfl ?_ | refine AWk_op (callS0L rfl rfl (hi) rfl (by repeat (first | exact trivial | exact AV.le.refl _ | exact AV.le.dat | exact AV.le.nils | exact AV.le.nilsf | exact AV.le.any _ | exact ObLe.refl _ | exact ⟨rfl, rfl⟩ | refine AV.le.tup ?_ | refine AV.le.agg ?_ | exact li | exact lb | exact ls | exact lk | exact ld | exact lz | refine ⟨?_, ?_⟩)) rfl rfl) rfl ?_ | refine AWd_op (callS0L rfl rfl (hi) rfl (by repeat (first | exact trivial | exact AV.le.refl _ | exact AV.le.dat | exact AV.le.nils | exact AV.le.nilsf | exact AV.le.any _ | exact ObLe.refl _ | exact ⟨rfl, rfl⟩ | refine AV.le.tup ?_ | refine AV.le.agg ?_ | exact li | exact lb | exact ls | exact lk | exact ld | exact lz | refine ⟨?_, ?_⟩)) rfl rfl) rfl rfl ?_
    repeat (first | refine wk hT rfl rfl ?_ | refine wd hT rfl rfl rfl ?_ | refine wz hT rfl ?_ | refine AWd_nil ?_ | refine AWk_nil ?_ | refine wh hT rfl rfl rfl rfl ?_ | refine wg hT rfl rfl rfl rfl rfl ?_ | refine AW_seq ?_ | refine AW_region ?_ | refine wx mixed ?_ | refine AW_block ?_ | refine AW_skip ?_ | refine AW_exit ?_ | refine AW_ret ?_)
    rw [Lib.join_cons]
    have hjt : ∀ i (hi : i < l.length), Lib.joinTail [10] ((l.take (i + 1)).map lineF) = Lib.joinTail [10] ((l.take i).map lineF) ++ ([10] ++ (nameOf chk l[i].1 ++ [32] ++ nameOf vls l[i].2)) := fun i hi => by
      rw [List.map_take, List.map_take, Lib.joinTail_take_succ [10] (l.map lineF) i (lineF l[i]) (by simp [hi])]
      simp [lineF]
    have hjl : ∀ i, i ≤ l.length → (Lib.joinTail [10] ((l.take i).map lineF)).length ≤ 600 := fun i hi => by
      have := joinTail_len (l.take i)
      simp at this ⊢; omega
    generalize hfs : nm ++ [32] ++ it = fst
    have hfl : fst.length ≤ 24 := by rw [← hfs]; simp; omega
    refine AW_loopC (ι := Nat) (fun i => [(1, .ptr 0 0), (3, .d (.str (fst ++ Lib.joinTail [10] ((l.take i).map lineF)))), (4, .d (.int .i64 (i : Int)))]) (fun _ => [.row [.d (.int .i64 v), .d (.int .i64 rule), .d (.sl 2 (encRes l))]]) (fun i => i ≤ l.length) (fun i => l.length - i) 0 (by omega) ⟨.refl _, .str (by simp [Lib.joinTail]), .refl _, trivial⟩ ⟨ObLe.refl _, trivial⟩ ?_
    intro i hi2
    have hwr : IntKind.i64.wrap ((i : Int) + 1) = ((i + 1 : Nat) : Int) := by rw [wrap_id (by omega)]; omega
    have hjl := hjl i hi2
    repeat (first | refine wk hT rfl rfl ?_ | refine wd hT rfl rfl rfl ?_ | refine wz hT rfl ?_ | refine AWd_nil ?_ | refine AWk_nil ?_ | refine wh hT rfl rfl rfl rfl ?_ | refine wg hT rfl rfl rfl rfl rfl ?_ | refine AW_seq ?_ | refine AW_region ?_ | refine wx mixed ?_ | refine AW_block ?_ | refine AW_skip ?_ | refine AW_exit ?_ | refine AW_ret ?_)
    refine AW_condL rfl (fun h2 => ?_) (fun h2 => ?_)
    · have hlt : i < l.length := by rw [hlen] at h2; simpa using h2
      have hel := encRes_at hlt
      have hjt := hjt i hlt
      generalize Lib.joinTail [10] ((l.take i).map lineF) = jt at hjl hjt ⊢
      generalize l[i] = r at hel hjt
      obtain ⟨a, b⟩ := r
      have hna := hnc a
      have hnb := hnx b
      have hla := chk_len a
      have hlb := vls_len b
      simp only at hel hjt
      generalize nameOf chk a = na at hna hla hjt
      generalize nameOf vls b = nb at hnb hlb hjt
      repeat (first | refine wk hT rfl rfl ?_ | refine wd hT rfl rfl rfl ?_ | refine wz hT rfl ?_ | refine AWd_nil ?_ | refine AWk_nil ?_ | refine wh hT rfl rfl rfl rfl ?_ | refine wg hT rfl rfl rfl rfl rfl ?_ | refine AW_seq ?_ | refine AW_region ?_ | refine wx mixed ?_ | refine AW_block ?_ | refine AW_skip ?_ | refine AW_exit ?_ | refine AW_ret ?_)
      first | refine AWk_op (OpS_of_pure (indexAddr_ok hT rfl rfl rfl rfl (by omega) (hel))) rfl ?_ | refine AWd_op (OpS_of_pure (indexAddr_ok hT rfl rfl rfl rfl (by omega) (hel))) rfl rfl ?_
      repeat (first | refine wk hT rfl rfl ?_ | refine wd hT rfl rfl rfl ?_ | refine wz hT rfl ?_ | refine AWd_nil ?_ | refine AWk_nil ?_ | refine wh hT rfl rfl rfl rfl ?_ | refine wg hT rfl rfl rfl rfl rfl ?_ | refine AW_seq ?_ | refine AW_region ?_ | refine wx mixed ?_ | refine AW_block ?_ | refine AW_skip ?_ | refine AW_exit ?_ | refine AW_ret ?_)
      first | refine AWk_op (callS0 rfl rfl (hna) rfl rfl rfl) rfl ?_ | refine AWd_op (callS0 rfl rfl (hna) rfl rfl rfl) rfl rfl ?_ | refine AWk_op (callS0L rfl rfl (hna) rfl (by repeat (first | exact trivial | exact AV.le.refl _ | exact AV.le.dat | exact AV.le.nils | exact AV.le.nilsf | exact AV.le.any _ | exact ObLe.refl _ | exact ⟨rfl, rfl⟩ | refine AV.le.tup ?_ | refine AV.le.agg ?_ | exact li | exact lb | exact ls | exact lk | exact ld | exact lz | refine ⟨?_, ?_⟩)) rfl rfl) rfl ?_ | refine AWd_op (callS0L rfl rfl (hna) rfl (by repeat (first | exact trivial | exact AV.le.refl _ | exact AV.le.dat | exact AV.le.nils | exact AV.le.nilsf | exact AV.le.any _ | exact ObLe.refl _ | exact ⟨rfl, rfl⟩ | refine AV.le.tup ?_ | refine AV.le.agg ?_ | exact li | exact lb | exact ls | exact lk | exact ld | exact lz | refine ⟨?_, ?_⟩)) rfl rfl) rfl rfl ?_
      repeat (first | refine wk hT rfl rfl ?_ | refine wd hT rfl rfl rfl ?_ | refine wz hT rfl ?_ | refine AWd_nil ?_ | refine AWk_nil ?_ | refine wh hT rfl rfl rfl rfl ?_ | refine wg hT rfl rfl rfl rfl rfl ?_ | refine AW_seq ?_ | refine AW_region ?_ | refine wx mixed ?_ | refine AW_block ?_ | refine AW_skip ?_ | refine AW_exit ?_ | refine AW_ret ?_)
      first | refine AWk_op (OpS_of_pure (indexAddr_ok hT rfl rfl rfl rfl (by omega) (hel))) rfl ?_ | refine AWd_op (OpS_of_pure (indexAddr_ok hT rfl rfl rfl rfl (by omega) (hel))) rfl rfl ?_
      repeat (first | refine wk hT rfl rfl ?_ | refine wd hT rfl rfl rfl ?_ | refine wz hT rfl ?_ | refine AWd_nil ?_ | refine AWk_nil ?_ | refine wh hT rfl rfl rfl rfl ?_ | refine wg hT rfl rfl rfl rfl rfl ?_ | refine AW_seq ?_ | refine AW_region ?_ | refine wx mixed ?_ | refine AW_block ?_ | refine AW_skip ?_ | refine AW_exit ?_ | refine AW_ret ?_)
      first | refine AWk_op (callS0 rfl rfl (hnb) rfl rfl rfl) rfl ?_ | refine AWd_op (callS0 rfl rfl (hnb) rfl rfl rfl) rfl rfl ?_ | refine AWk_op (callS0L rfl rfl (hnb) rfl (by repeat (first | exact trivial | exact AV.le.refl _ | exact AV.le.dat | exact AV.le.nils | exact AV.le.nilsf | exact AV.le.any _ | exact ObLe.refl _ | exact ⟨rfl, rfl⟩ | refine AV.le.tup ?_ | refine AV.le.agg ?_ | exact li | exact lb | exact ls | exact lk | exact ld | exact lz | refine ⟨?_, ?_⟩)) rfl rfl) rfl ?_ | refine AWd_op (callS0L rfl rfl (hnb) rfl (by repeat (first | exact trivial | exact AV.le.refl _ | exact AV.le.dat | exact AV.le.nils | exact AV.le.nilsf | exact AV.le.any _ | exact ObLe.refl _ | exact ⟨rfl, rfl⟩ | refine AV.le.tup ?_ | refine AV.le.agg ?_ | exact li | exact lb | exact ls | exact lk | exact ld | exact lz | refine ⟨?_, ?_⟩)) rfl rfl) rfl rfl ?_
      repeat (first | refine wk hT rfl rfl ?_ | refine wd hT rfl rfl rfl ?_ | refine wz hT rfl ?_ | refine AWd_nil ?_ | refine AWk_nil ?_ | refine wh hT rfl rfl rfl rfl ?_ | refine wg hT rfl rfl rfl rfl rfl ?_ | refine AW_seq ?_ | refine AW_region ?_ | refine wx mixed ?_ | refine AW_block ?_ | refine AW_skip ?_ | refine AW_exit ?_ | refine AW_ret ?_)
      exact ⟨i + 1, [], by omega, by omega, ⟨.refl _, .str (by rw [hjt]; simp), .int hwr, trivial⟩, ⟨ObLe.refl _, trivial⟩, Env.below_mono hE (by simp), rfl, rfl⟩
    · have hge : i = l.length := by rw [hlen] at h2; simp at h2; omega
      subst hge
      rw [List.take_length]
      repeat (first | refine wk hT rfl rfl ?_ | refine wd hT rfl rfl rfl ?_ | refine wz hT rfl ?_ | refine AWd_nil ?_ | refine AWk_nil ?_ | refine wh hT rfl rfl rfl rfl ?_ | refine wg hT rfl rfl rfl rfl rfl ?_ | refine AW_seq ?_ | refine AW_region ?_ | refine wx mixed ?_ | refine AW_block ?_ | refine AW_skip ?_ | refine AW_exit ?_ | refine AW_ret ?_)
      first | exact rx ⟨rfl, rfl⟩ | exact rxN ⟨rfl, rfl⟩ | (refine rq ⟨rfl, rfl⟩ rfl ?_; repeat (first | exact trivial | exact AV.le.refl _ | exact AV.le.dat | exact AV.le.nils | exact AV.le.nilsf | exact AV.le.any _ | exact ObLe.refl _ | exact ⟨rfl, rfl⟩ | refine AV.le.tup ?_ | refine AV.le.agg ?_ | exact li | exact lb | exact ls | exact lk | exact ld | exact lz | refine ⟨?_, ?_⟩)) | (refine rqN ⟨rfl, rfl⟩ rfl ?_; repeat (first | exact trivial | exact AV.le.refl _ | exact AV.le.dat | exact AV.le.nils | exact AV.le.nilsf | exact AV.le.any _ | exact ObLe.refl _ | exact ⟨rfl, rfl⟩ | refine AV.le.tup ?_ | refine AV.le.agg ?_ | exact li | exact lb | exact ls | exact lk | exact ld | exact lz | refine ⟨?_, ?_⟩))

end Tdoc
/- The lines of a text: strings.Split at a new line, and the reference's lines. -/
set_option linter.unusedVariables false
set_option linter.unusedSimpArgs false
namespace Tdoc
open Go Go.Proofs

def preH (p : List UInt8) : List (List UInt8) → List (List UInt8)
  | [] => [p]
  | x :: xs => (p ++ x) :: xs
/-- A text's lines. -/
def lnR : List UInt8 → List (List UInt8)
  | [] => [[]]
  | b :: s => if b = 10 then [] :: lnR s else preH [b] (lnR s)

theorem preH_pre (p q : List UInt8) (l : List (List UInt8)) : preH p (preH q l) = preH (p ++ q) l := by cases l <;> simp [preH]
theorem lnR_ne (s : List UInt8) : lnR s ≠ [] := by
  cases s with
  | nil => simp [lnR]
  | cons b s =>
    rw [lnR]
    split
    · simp
    · cases lnR s <;> simp [preH]
theorem preH_nil {l : List (List UInt8)} (h : l ≠ []) : preH [] l = l := by cases l <;> simp_all [preH]
theorem lnR_len (s : List UInt8) : (lnR s).length ≤ s.length + 1 := by
  induction s with
  | nil => simp [lnR]
  | cons b s ih =>
    rw [lnR]
    split
    · simp; exact ih
    · cases h : lnR s with
      | nil => simp [preH]
      | cons x xs => rw [h] at ih; simp [preH] at ih ⊢; omega

theorem lnR_none : ∀ s : List UInt8, Lib.indexByte s 10 = -1 → lnR s = [s]
  | [], _ => rfl
  | b :: s, h => by
    rw [Lib.indexByte] at h
    have hge := Lib.indexByte_ge s 10
    split at h
    · omega
    · rename_i hb
      split at h
      · rename_i h1
        rw [lnR, if_neg (by simpa using hb), lnR_none s (by simpa using h1)]; rfl
      · rename_i h1; simp at h1; omega
theorem lnR_some : ∀ (s : List UInt8) (i : Nat), Lib.indexByte s 10 = i → lnR s = s.take i :: lnR (s.drop (i + 1))
  | [], i, h => by rw [Lib.indexByte] at h; omega
  | b :: s, i, h => by
    rw [Lib.indexByte] at h
    split at h
    · rename_i hb
      have : i = 0 := by omega
      subst this
      rw [lnR, if_pos (by simpa using hb)]; rfl
    · rename_i hb
      split at h
      · omega
      · have hge := Lib.indexByte_ge s 10
        rename_i h1
        simp at h1
        rw [lnR, if_neg (by simpa using hb), lnR_some s (i - 1) (by omega)]
        obtain ⟨j, rfl⟩ : ∃ j, i = j + 1 := ⟨i - 1, by omega⟩
        simp [preH]

theorem splitK_lnR : ∀ (k : Nat) (s : List UInt8), Lib.count s [10] = k → Lib.splitK [10] 0 k s = lnR s
  | 0, s, h => by
    rcases Lib.index_spec s [10] with ⟨h1, -⟩ | ⟨i, h1, -⟩
    · rw [lnR_none s (by rw [← Lib.index_one]; exact h1)]; rfl
    · rw [Lib.count_hit (by simp) h1] at h; omega
  | k + 1, s, h => by
    rcases Lib.index_spec s [10] with ⟨h1, -⟩ | ⟨i, h1, -⟩
    · rw [Lib.count_miss h1] at h; omega
    · have h2 := Lib.count_hit (sub := [10]) (by simp) h1
      rw [Lib.splitK, if_neg (by rw [h1]; simp), h1, Int.toNat_natCast, splitK_lnR k _ (by rw [h2] at h; exact Nat.add_left_cancel (n := 1) (h.trans (Nat.add_comm k 1))), lnR_some s i (by rw [← Lib.index_one]; exact h1)]
      rfl

theorem splitL_nl (s : List UInt8) : splitL s [10] = lnR s ∧ (splitL s [10]).length = Lib.countB ⟨s.toArray⟩ ⟨[(10 : UInt8)].toArray⟩ + 1 := by
  refine ⟨?_, ?_⟩
  · unfold splitL
    rw [Lib.splitB_data]
    exact splitK_lnR _ s rfl
  · unfold splitL
    rw [List.length_map, Lib.splitB_all _ (by simp [ByteArray.size]) 0 _ _ rfl]

set_option maxHeartbeats 8000000 in
set_option maxRecDepth 100000 in
theorem lines_spec (s : List UInt8) (hs : s.length ≤ 1000000) : Spec Tryz.prog 44 [.d (.str s)] [] (fun r h' => r = .d (.sl 1 (strsAV (lnR s))) ∧ h' = []) := by
  generalize hfin : lnR s = fin
  refine Spec_of_body hT Tryz.func44 rfl rfl rfl rfl ?_
  intro E hE
  repeat (first | refine wk hT rfl rfl ?_ | refine wd hT rfl rfl rfl ?_ | refine wz hT rfl ?_ | refine AWd_nil ?_ | refine AWk_nil ?_ | refine wh hT rfl rfl rfl rfl ?_ | refine wg hT rfl rfl rfl rfl rfl ?_ | refine AW_seq ?_ | refine AW_region ?_ | refine wx mixed ?_ | refine AW_block ?_ | refine AW_skip ?_ | refine AW_exit ?_ | refine AW_ret ?_)
  refine AW_room (AW_acquireAt 3 1 0 (es := []) (.inr ⟨rfl, rfl⟩) rfl ?_)
  refine AW_loopL (ι := Nat × Nat × List (List UInt8)) (fun x => [(0, .d (.str s)), (3, .sl 1 (strsAV x.2.2) (.right 0)), (4, .d (.int .i64 (x.2.1 : Int))), (5, .d (.int .i64 (x.1 : Int)))]) (fun x => [.right 1 (strsAV x.2.2).length])
    (fun x => x.2.1 ≤ x.1 ∧ x.2.2.length ≤ x.1 ∧ ((x.1 ≤ s.length ∧ x.2.2 ++ preH ((s.take x.1).drop x.2.1) (lnR (s.drop x.1)) = fin) ∨ (x.1 = s.length + 1 ∧ x.2.2 = fin))) (fun x => s.length + 1 - x.1) (0, 0, [])
    ⟨by simp, by simp, .inl ⟨by simp, by rw [← hfin]; simp [preH_nil (lnR_ne s)]⟩⟩ ⟨.refl _, .refl _, .refl _, .refl _, trivial⟩ (HLe.refl _) ?_
  rintro ⟨i, at_, out⟩ ⟨ha, ho, hg⟩
  simp only at ha ho hg ⊢
  have hi : i ≤ s.length + 1 := by rcases hg with ⟨h, -⟩ | ⟨h, -⟩ <;> omega
  have hwr : IntKind.i64.wrap ((i : Int) + 1) = ((i + 1 : Nat) : Int) := by rw [wrap_id (by omega)]; omega
  have hol := strsAV_length out
  repeat (first | refine wk hT rfl rfl ?_ | refine wd hT rfl rfl rfl ?_ | refine wz hT rfl ?_ | refine AWd_nil ?_ | refine AWk_nil ?_ | refine wh hT rfl rfl rfl rfl ?_ | refine wg hT rfl rfl rfl rfl rfl ?_ | refine AW_seq ?_ | refine AW_region ?_ | refine wx mixed ?_ | refine AW_block ?_ | refine AW_skip ?_ | refine AW_exit ?_ | refine AW_ret ?_)
  refine AW_condL rfl (fun h1 => ?_) (fun h1 => ?_)
  · have hle : i ≤ s.length := by simpa using h1
    have hg : out ++ preH ((s.take i).drop at_) (lnR (s.drop i)) = fin := by rcases hg with ⟨-, h⟩ | ⟨h, -⟩ <;> first | exact h | omega
    have hdr : ∀ h : i < s.length, s.drop i = s[i] :: s.drop (i + 1) := fun h => by simp
    repeat (first | refine wk hT rfl rfl ?_ | refine wd hT rfl rfl rfl ?_ | refine wz hT rfl ?_ | refine AWd_nil ?_ | refine AWk_nil ?_ | refine wh hT rfl rfl rfl rfl ?_ | refine wg hT rfl rfl rfl rfl rfl ?_ | refine AW_seq ?_ | refine AW_region ?_ | refine wx mixed ?_ | refine AW_block ?_ | refine AW_skip ?_ | refine AW_exit ?_ | refine AW_ret ?_)
    refine AW_condL rfl (fun h2 => ?_) (fun h2 => ?_)
    · repeat (first | refine wk hT rfl rfl ?_ | refine wd hT rfl rfl rfl ?_ | refine wz hT rfl ?_ | refine AWd_nil ?_ | refine AWk_nil ?_ | refine wh hT rfl rfl rfl rfl ?_ | refine wg hT rfl rfl rfl rfl rfl ?_ | refine AW_seq ?_ | refine AW_region ?_ | refine wx mixed ?_ | refine AW_block ?_ | refine AW_skip ?_ | refine AW_exit ?_ | refine AW_ret ?_)
      refine AWk_op (append_right (i := 0) hT rfl rfl rfl rfl rfl rfl (by show ((strsAV out).length + 1) * (16 + 1) ≤ 140737488355328; omega)) rfl ?_
      repeat (first | refine wk hT rfl rfl ?_ | refine wd hT rfl rfl rfl ?_ | refine wz hT rfl ?_ | refine AWd_nil ?_ | refine AWk_nil ?_ | refine wh hT rfl rfl rfl rfl ?_ | refine wg hT rfl rfl rfl rfl rfl ?_ | refine AW_seq ?_ | refine AW_region ?_ | refine wx mixed ?_ | refine AW_block ?_ | refine AW_skip ?_ | refine AW_exit ?_ | refine AW_ret ?_)
      refine ⟨(i + 1, i + 1, out ++ [(s.drop at_).take (i - at_)]), ⟨by simp only; omega, by simp only [List.length_append, List.length_cons, List.length_nil]; omega, ?_⟩, by simp only; omega, ⟨.refl _, .slt (by simp [strsAV, cutL]), .int hwr, .int hwr, trivial⟩, ⟨⟨rfl, by simp [strsAV]⟩, trivial⟩⟩
      simp only
      have htd : (s.take i).drop at_ = (s.drop at_).take (i - at_) := by rw [List.drop_take]
      by_cases hlt : i < s.length
      · have hc : s[i] = 10 := by
          rw [strAt_get hlt] at h2
          simp at h2
          rcases h2 with h2 | h2
          · omega
          · exact (byteI rfl).1 h2
        refine .inl ⟨by omega, ?_⟩
        rw [hdr hlt, lnR, if_pos hc, preH, htd] at hg
        rw [← hg, show (s.take (i + 1)).drop (i + 1) = [] from List.drop_eq_nil_of_le (by rw [List.length_take]; omega), preH_nil (lnR_ne _)]
        simp
      · have : i = s.length := by omega
        subst this
        refine .inr ⟨rfl, ?_⟩
        rw [List.drop_length, lnR, preH, htd] at hg
        rw [← hg]; simp
    · have hlt : i < s.length := by simp at h2; omega
      have hc : s[i] ≠ 10 := fun hc => by rw [strAt_get hlt, hc] at h2; simp at h2
      repeat (first | refine wk hT rfl rfl ?_ | refine wd hT rfl rfl rfl ?_ | refine wz hT rfl ?_ | refine AWd_nil ?_ | refine AWk_nil ?_ | refine wh hT rfl rfl rfl rfl ?_ | refine wg hT rfl rfl rfl rfl rfl ?_ | refine AW_seq ?_ | refine AW_region ?_ | refine wx mixed ?_ | refine AW_block ?_ | refine AW_skip ?_ | refine AW_exit ?_ | refine AW_ret ?_)
      refine ⟨(i + 1, at_, out), ⟨by simp only; omega, by simp only; omega, .inl ⟨by simp only; omega, ?_⟩⟩, by simp only; omega, ⟨.refl _, .refl _, .refl _, .int hwr, trivial⟩, HLe.refl _⟩
      rw [hdr hlt, lnR, if_neg hc, preH_pre] at hg
      rw [← hg]
      simp only
      rw [List.take_succ_eq_append_getElem hlt, List.drop_append_of_le_length (by simp; omega)]
  · have hge : i = s.length + 1 := by simp at h1; omega
    have hg : out = fin := by rcases hg with ⟨h, -⟩ | ⟨-, h⟩ <;> first | exact h | omega
    subst hg
    repeat (first | refine wk hT rfl rfl ?_ | refine wd hT rfl rfl rfl ?_ | refine wz hT rfl ?_ | refine AWd_nil ?_ | refine AWk_nil ?_ | refine wh hT rfl rfl rfl rfl ?_ | refine wg hT rfl rfl rfl rfl rfl ?_ | refine AW_seq ?_ | refine AW_region ?_ | refine wx mixed ?_ | refine AW_block ?_ | refine AW_skip ?_ | refine AW_exit ?_ | refine AW_ret ?_)
    first | exact rx ⟨rfl, rfl⟩ | exact rxN ⟨rfl, rfl⟩ | (refine rq ⟨rfl, rfl⟩ rfl ?_; repeat (first | exact trivial | exact AV.le.refl _ | exact AV.le.dat | exact AV.le.nils | exact AV.le.nilsf | exact AV.le.any _ | exact ObLe.refl _ | exact ⟨rfl, rfl⟩ | refine AV.le.tup ?_ | refine AV.le.agg ?_ | exact li | exact lb | exact ls | exact lk | exact ld | exact lz | refine ⟨?_, ?_⟩)) | (refine rqN ⟨rfl, rfl⟩ rfl ?_; repeat (first | exact trivial | exact AV.le.refl _ | exact AV.le.dat | exact AV.le.nils | exact AV.le.nilsf | exact AV.le.any _ | exact ObLe.refl _ | exact ⟨rfl, rfl⟩ | refine AV.le.tup ?_ | refine AV.le.agg ?_ | exact li | exact lb | exact ls | exact lk | exact ld | exact lz | refine ⟨?_, ?_⟩))
end Tdoc
/- Reading a decision: the program. -/
set_option linter.unusedVariables false
set_option linter.unusedSimpArgs false
namespace Tdoc
open Go Go.Proofs

def rsOf (s : List UInt8) : Res := (sIdx chk (Lib.cut s [32]).1 + 1, sIdx vls (Lib.cut s [32]).2.1 + 1)
def decOf (a : List UInt8) (tl : List (List UInt8)) : Decn := ⟨sIdx vds (Lib.cut a [32]).1 + 1, (atoiR (Lib.cut a [32]).2.1).1, tl.map rsOf⟩
def readL (text a : List UInt8) (tl : List (List UInt8)) : Decn × Int :=
  if (atoiR (Lib.cut a [32]).2.1).2 = false ∨ 13 < tl.length then (⟨0, 0, []⟩, 71)
  else if textF (decOf a tl) = [] ∨ textF (decOf a tl) ≠ text then (⟨0, 0, []⟩, 71) else (decOf a tl, 0)
/-- What the program reads. -/
def readF (text : List UInt8) : Decn × Int := match lnR text with
  | [] => (⟨0, 0, []⟩, 71)
  | a :: tl => readL text a tl

theorem atoiR_bound (s : List UInt8) : -9223372036854775808 ≤ (atoiR s).1 ∧ (atoiR s).1 ≤ 9223372036854775807 := by
  unfold atoiR
  split
  · rename_i v h; exact Lib.atoiAll_bounds h
  · exact Lib.atoiSat_bounds s
  · exact ⟨by decide, by decide⟩
theorem cut_len (s : List UInt8) : (Lib.cut s [32]).1.length ≤ s.length ∧ (Lib.cut s [32]).2.1.length ≤ s.length := by
  unfold Lib.cut
  split
  · simp; omega
  · simp
theorem rsOf_bound (s : List UInt8) : (0 ≤ (rsOf s).1 ∧ (rsOf s).1 ≤ 13) ∧ (0 ≤ (rsOf s).2 ∧ (rsOf s).2 ≤ 4) := by
  have h1 := sIdx_bound chk (Lib.cut s [32]).1
  have h2 := sIdx_bound vls (Lib.cut s [32]).2.1
  have e1 : chk.length = 13 := rfl
  have e2 : vls.length = 4 := rfl
  unfold rsOf
  simp only
  omega
theorem lnR_mem (s : List UInt8) : ∀ x, x ∈ lnR s → x.length ≤ s.length := by
  induction s with
  | nil => intro x hx; simp [lnR] at hx; simp [hx]
  | cons b s ih =>
    intro x hx
    rw [lnR] at hx
    split at hx
    · rcases List.mem_cons.1 hx with rfl | hx
      · simp
      · have := ih x hx; simp; omega
    · cases hl : lnR s with
      | nil => rw [hl] at hx; simp [preH] at hx; simp [hx]
      | cons y ys =>
        rw [hl] at hx ih
        rcases List.mem_cons.1 hx with rfl | hx
        · have := ih y List.mem_cons_self; simp; omega
        · have := ih x (List.mem_cons_of_mem _ hx); simp; omega

set_option maxHeartbeats 8000000 in
set_option maxRecDepth 100000 in
theorem Read_spec (text : List UInt8) (hs : text.length ≤ 1000) : Spec Tryz.prog 16 [.d (.str text)] [] (fun r h' => r = .tup [decAV (readF text).1, .d (.int .i64 (readF text).2)] ∧ h' = []) := by
  have hsp := Split_spec text [10] (by omega) (by simp) (splitL_nl text).2
  rw [(splitL_nl text).1] at hsp
  have hll := lnR_len text
  have hlm := lnR_mem text
  unfold readF
  have hne := lnR_ne text
  generalize hfin : (match lnR text with
    | [] => ((⟨0, 0, []⟩, 71) : Decn × Int)
    | a :: tl => readL text a tl) = fin
  generalize lnR text = ls at hfin hsp hll hlm hne
  cases ls with
  | nil => exact absurd rfl hne
  | cons a tl =>
  simp only at hfin
  have hal := hlm a List.mem_cons_self
  have htl := fun x hx => hlm x (List.mem_cons_of_mem _ hx)
  have hcut := Cut_spec a [32] (by omega)
  have hcl := cut_len a
  have hat := Atoi_spec (Lib.cut a [32]).2.1 (by omega)
  have hab := atoiR_bound (Lib.cut a [32]).2.1
  have hvs := Verdicts_spec
  have hcs := Checks_spec
  have hxs := Values_spec
  have hix := Index_spec vds (Lib.cut a [32]).1 (by decide)
  have hib := sIdx_bound vds (Lib.cut a [32]).1
  have e3 : vds.length = 3 := rfl
  have hcx := fun s hs => Cut_spec s [32] hs
  have hi1 := fun s => Index_spec chk s (by decide)
  have hi2 := fun s => Index_spec vls s (by decide)
  have hT1 := Text_spec (decOf a tl)
  unfold readL at hfin
  unfold decOf at hT1 hfin
  generalize Lib.cut a [32] = c at hcut hcl hat hab hix hib hfin hT1
  obtain ⟨c1, c2, c3⟩ := c
  simp only at hcut hcl hat hab hix hib hfin hT1
  generalize sIdx vds c1 = iv at hix hib hfin hT1
  generalize atoiR c2 = q at hat hab hfin hT1
  obtain ⟨n, ok⟩ := q
  simp only at hat hab hfin hT1
  have hlen := strsAV_length (a :: tl)
  have hel0 : (strsAV (a :: tl))[((0 : Int)).toNat]? = some [.str a] := rfl
  have hsl : ∀ i, i < tl.length → (strsAV tl)[((i : Int)).toNat]? = some [.str ((tl[i]?).getD [])] := fun i hi => by simp [strsAV, hi]
  have hdr : (strsAV (a :: tl)).drop 1 = strsAV tl := rfl
  generalize strsAV vds = svd at hvs hix
  generalize strsAV chk = sck at hcs hi1
  generalize strsAV vls = svl at hxs hi2
  generalize hss : strsAV (a :: tl) = ss at hsp hlen hel0 hdr
  simp only [List.length_cons] at hlen hll
  refine Spec_of_body hT Tryz.func16 rfl rfl rfl rfl ?_
  intro E hE
  repeat (first | refine wk hT rfl rfl ?_ | refine wd hT rfl rfl rfl ?_ | refine wz hT rfl ?_ | refine AWd_nil ?_ | refine AWk_nil ?_ | refine wh hT rfl rfl rfl rfl ?_ | refine wg hT rfl rfl rfl rfl rfl ?_ | refine AW_seq ?_ | refine AW_region ?_ | refine wx mixed ?_ | refine AW_block ?_ | refine AW_skip ?_ | refine AW_exit ?_ | refine AW_ret ?_)
  first | refine AWk_op (callS0 rfl rfl (hsp) rfl rfl rfl) rfl ?_ | refine AWd_op (callS0 rfl rfl (hsp) rfl rfl rfl) rfl rfl ?_ | refine AWk_op (callS0L rfl rfl (hsp) rfl (by repeat (first | exact trivial | exact AV.le.refl _ | exact AV.le.dat | exact AV.le.nils | exact AV.le.nilsf | exact AV.le.any _ | exact ObLe.refl _ | exact ⟨rfl, rfl⟩ | refine AV.le.tup ?_ | refine AV.le.agg ?_ | exact li | exact lb | exact ls | exact lk | exact ld | exact lz | refine ⟨?_, ?_⟩)) rfl rfl) rfl ?_ | refine AWd_op (callS0L rfl rfl (hsp) rfl (by repeat (first | exact trivial | exact AV.le.refl _ | exact AV.le.dat | exact AV.le.nils | exact AV.le.nilsf | exact AV.le.any _ | exact ObLe.refl _ | exact ⟨rfl, rfl⟩ | refine AV.le.tup ?_ | refine AV.le.agg ?_ | exact li | exact lb | exact ls | exact lk | exact ld | exact lz | refine ⟨?_, ?_⟩)) rfl rfl) rfl rfl ?_
  repeat (first | refine wk hT rfl rfl ?_ | refine wd hT rfl rfl rfl ?_ | refine wz hT rfl ?_ | refine AWd_nil ?_ | refine AWk_nil ?_ | refine wh hT rfl rfl rfl rfl ?_ | refine wg hT rfl rfl rfl rfl rfl ?_ | refine AW_seq ?_ | refine AW_region ?_ | refine wx mixed ?_ | refine AW_block ?_ | refine AW_skip ?_ | refine AW_exit ?_ | refine AW_ret ?_)
  first | refine AWk_op (OpS_of_pure (indexAddr_ok hT rfl rfl rfl rfl (by omega) (hel0))) rfl ?_ | refine AWd_op (OpS_of_pure (indexAddr_ok hT rfl rfl rfl rfl (by omega) (hel0))) rfl rfl ?_
  repeat (first | refine wk hT rfl rfl ?_ | refine wd hT rfl rfl rfl ?_ | refine wz hT rfl ?_ | refine AWd_nil ?_ | refine AWk_nil ?_ | refine wh hT rfl rfl rfl rfl ?_ | refine wg hT rfl rfl rfl rfl rfl ?_ | refine AW_seq ?_ | refine AW_region ?_ | refine wx mixed ?_ | refine AW_block ?_ | refine AW_skip ?_ | refine AW_exit ?_ | refine AW_ret ?_)
  first | refine AWk_op (callS0 rfl rfl (hcut) rfl rfl rfl) rfl ?_ | refine AWd_op (callS0 rfl rfl (hcut) rfl rfl rfl) rfl rfl ?_ | refine AWk_op (callS0L rfl rfl (hcut) rfl (by repeat (first | exact trivial | exact AV.le.refl _ | exact AV.le.dat | exact AV.le.nils | exact AV.le.nilsf | exact AV.le.any _ | exact ObLe.refl _ | exact ⟨rfl, rfl⟩ | refine AV.le.tup ?_ | refine AV.le.agg ?_ | exact li | exact lb | exact ls | exact lk | exact ld | exact lz | refine ⟨?_, ?_⟩)) rfl rfl) rfl ?_ | refine AWd_op (callS0L rfl rfl (hcut) rfl (by repeat (first | exact trivial | exact AV.le.refl _ | exact AV.le.dat | exact AV.le.nils | exact AV.le.nilsf | exact AV.le.any _ | exact ObLe.refl _ | exact ⟨rfl, rfl⟩ | refine AV.le.tup ?_ | refine AV.le.agg ?_ | exact li | exact lb | exact ls | exact lk | exact ld | exact lz | refine ⟨?_, ?_⟩)) rfl rfl) rfl rfl ?_
  repeat (first | refine wk hT rfl rfl ?_ | refine wd hT rfl rfl rfl ?_ | refine wz hT rfl ?_ | refine AWd_nil ?_ | refine AWk_nil ?_ | refine wh hT rfl rfl rfl rfl ?_ | refine wg hT rfl rfl rfl rfl rfl ?_ | refine AW_seq ?_ | refine AW_region ?_ | refine wx mixed ?_ | refine AW_block ?_ | refine AW_skip ?_ | refine AW_exit ?_ | refine AW_ret ?_)
  first | refine AWk_op (callS0 rfl rfl (hvs) rfl rfl rfl) rfl ?_ | refine AWd_op (callS0 rfl rfl (hvs) rfl rfl rfl) rfl rfl ?_ | refine AWk_op (callS0L rfl rfl (hvs) rfl (by repeat (first | exact trivial | exact AV.le.refl _ | exact AV.le.dat | exact AV.le.nils | exact AV.le.nilsf | exact AV.le.any _ | exact ObLe.refl _ | exact ⟨rfl, rfl⟩ | refine AV.le.tup ?_ | refine AV.le.agg ?_ | exact li | exact lb | exact ls | exact lk | exact ld | exact lz | refine ⟨?_, ?_⟩)) rfl rfl) rfl ?_ | refine AWd_op (callS0L rfl rfl (hvs) rfl (by repeat (first | exact trivial | exact AV.le.refl _ | exact AV.le.dat | exact AV.le.nils | exact AV.le.nilsf | exact AV.le.any _ | exact ObLe.refl _ | exact ⟨rfl, rfl⟩ | refine AV.le.tup ?_ | refine AV.le.agg ?_ | exact li | exact lb | exact ls | exact lk | exact ld | exact lz | refine ⟨?_, ?_⟩)) rfl rfl) rfl rfl ?_
  repeat (first | refine wk hT rfl rfl ?_ | refine wd hT rfl rfl rfl ?_ | refine wz hT rfl ?_ | refine AWd_nil ?_ | refine AWk_nil ?_ | refine wh hT rfl rfl rfl rfl ?_ | refine wg hT rfl rfl rfl rfl rfl ?_ | refine AW_seq ?_ | refine AW_region ?_ | refine wx mixed ?_ | refine AW_block ?_ | refine AW_skip ?_ | refine AW_exit ?_ | refine AW_ret ?_)
  first | refine AWk_op (callS0 rfl rfl (hix) rfl rfl rfl) rfl ?_ | refine AWd_op (callS0 rfl rfl (hix) rfl rfl rfl) rfl rfl ?_ | refine AWk_op (callS0L rfl rfl (hix) rfl (by repeat (first | exact trivial | exact AV.le.refl _ | exact AV.le.dat | exact AV.le.nils | exact AV.le.nilsf | exact AV.le.any _ | exact ObLe.refl _ | exact ⟨rfl, rfl⟩ | refine AV.le.tup ?_ | refine AV.le.agg ?_ | exact li | exact lb | exact ls | exact lk | exact ld | exact lz | refine ⟨?_, ?_⟩)) rfl rfl) rfl ?_ | refine AWd_op (callS0L rfl rfl (hix) rfl (by repeat (first | exact trivial | exact AV.le.refl _ | exact AV.le.dat | exact AV.le.nils | exact AV.le.nilsf | exact AV.le.any _ | exact ObLe.refl _ | exact ⟨rfl, rfl⟩ | refine AV.le.tup ?_ | refine AV.le.agg ?_ | exact li | exact lb | exact ls | exact lk | exact ld | exact lz | refine ⟨?_, ?_⟩)) rfl rfl) rfl rfl ?_
  repeat (first | refine wk hT rfl rfl ?_ | refine wd hT rfl rfl rfl ?_ | refine wz hT rfl ?_ | refine AWd_nil ?_ | refine AWk_nil ?_ | refine wh hT rfl rfl rfl rfl ?_ | refine wg hT rfl rfl rfl rfl rfl ?_ | refine AW_seq ?_ | refine AW_region ?_ | refine wx mixed ?_ | refine AW_block ?_ | refine AW_skip ?_ | refine AW_exit ?_ | refine AW_ret ?_)
  first | refine AWk_op (callS0 rfl rfl (hat) rfl rfl rfl) rfl ?_ | refine AWd_op (callS0 rfl rfl (hat) rfl rfl rfl) rfl rfl ?_ | refine AWk_op (callS0L rfl rfl (hat) rfl (by repeat (first | exact trivial | exact AV.le.refl _ | exact AV.le.dat | exact AV.le.nils | exact AV.le.nilsf | exact AV.le.any _ | exact ObLe.refl _ | exact ⟨rfl, rfl⟩ | refine AV.le.tup ?_ | refine AV.le.agg ?_ | exact li | exact lb | exact ls | exact lk | exact ld | exact lz | refine ⟨?_, ?_⟩)) rfl rfl) rfl ?_ | refine AWd_op (callS0L rfl rfl (hat) rfl (by repeat (first | exact trivial | exact AV.le.refl _ | exact AV.le.dat | exact AV.le.nils | exact AV.le.nilsf | exact AV.le.any _ | exact ObLe.refl _ | exact ⟨rfl, rfl⟩ | refine AV.le.tup ?_ | refine AV.le.agg ?_ | exact li | exact lb | exact ls | exact lk | exact ld | exact lz | refine ⟨?_, ?_⟩)) rfl rfl) rfl rfl ?_
  repeat (first | refine wk hT rfl rfl ?_ | refine wd hT rfl rfl rfl ?_ | refine wz hT rfl ?_ | refine AWd_nil ?_ | refine AWk_nil ?_ | refine wh hT rfl rfl rfl rfl ?_ | refine wg hT rfl rfl rfl rfl rfl ?_ | refine AW_seq ?_ | refine AW_region ?_ | refine wx mixed ?_ | refine AW_block ?_ | refine AW_skip ?_ | refine AW_exit ?_ | refine AW_ret ?_)
  refine AWk_op (OpS_of_pure (ifcNe_ok (fun _ => rfl) rfl Tryz.underlying73 rfl)) rfl ?_
  repeat (first | refine wk hT rfl rfl ?_ | refine wd hT rfl rfl rfl ?_ | refine wz hT rfl ?_ | refine AWd_nil ?_ | refine AWk_nil ?_ | refine wh hT rfl rfl rfl rfl ?_ | refine wg hT rfl rfl rfl rfl rfl ?_ | refine AW_seq ?_ | refine AW_region ?_ | refine wx mixed ?_ | refine AW_block ?_ | refine AW_skip ?_ | refine AW_exit ?_ | refine AW_ret ?_)
  refine AW_condL rfl (fun h1 => ?_) (fun h1 => ?_)
  · have h1' : ok = false ∨ 13 < tl.length := by
      rw [hlen] at h1
      cases ok
      · exact .inl rfl
      · simp at h1; exact .inr (by omega)
    rw [if_pos h1'] at hfin
    subst hfin
    repeat (first | refine wk hT rfl rfl ?_ | refine wd hT rfl rfl rfl ?_ | refine wz hT rfl ?_ | refine AWd_nil ?_ | refine AWk_nil ?_ | refine wh hT rfl rfl rfl rfl ?_ | refine wg hT rfl rfl rfl rfl rfl ?_ | refine AW_seq ?_ | refine AW_region ?_ | refine wx mixed ?_ | refine AW_block ?_ | refine AW_skip ?_ | refine AW_exit ?_ | refine AW_ret ?_)
    exact rq (r := .tup [decAV ⟨0, 0, []⟩, .d (.int .i64 71)]) ⟨rfl, rfl⟩ rfl (AV.le.tup ⟨AV.le.agg ⟨.refl _, .refl _, AV.le.dat, trivial⟩, .refl _, trivial⟩)
  · have h1' : ¬ (ok = false ∨ 13 < tl.length) := by
      rw [hlen] at h1
      cases ok
      · simp at h1
      · simp at h1; simp; omega
    rw [if_neg h1'] at hfin
    have hok : ok = true := by cases ok <;> simp at h1' ⊢
    have h13 : tl.length ≤ 13 := by omega
    have hwiv : IntKind.i64.wrap (iv + 1) = iv + 1 := wrap_id (by omega)
    repeat (first | refine wk hT rfl rfl ?_ | refine wd hT rfl rfl rfl ?_ | refine wz hT rfl ?_ | refine AWd_nil ?_ | refine AWk_nil ?_ | refine wh hT rfl rfl rfl rfl ?_ | refine wg hT rfl rfl rfl rfl rfl ?_ | refine AW_seq ?_ | refine AW_region ?_ | refine wx mixed ?_ | refine AW_block ?_ | refine AW_skip ?_ | refine AW_exit ?_ | refine AW_ret ?_)
    have hstl : (strsAV tl).length = tl.length := strsAV_length tl
    refine AW_room (AW_acquireH 1 2 2 2 rfl rfl rfl ?_)
    refine AW_loopC (ι := Nat) (fun i => [(0, .d (.str text)), (2, .ptr 0 0), (8, .ptr 1 0), (46, .d (.sl 1 (strsAV tl))), (47, .d (.int .i64 (tl.length : Int))), (48, .d (.int .i64 (i : Int)))])
      (fun i => [.row [.d (.int .i64 0), .d (.int .i64 0), .sl 2 [] .full], .row [.d (.int .i64 (iv + 1)), .d (.int .i64 n), .sl 2 (encRes ((tl.take i).map rsOf)) (.right 2)], .right 2 (encRes ((tl.take i).map rsOf)).length])
      (fun i => i ≤ tl.length) (fun i => tl.length - i) 0 (by omega) ⟨.refl _, .refl _, .refl _, ls hdr, .int (by show ((ss.drop 1).length : Int) = _; rw [hdr, hstl]), .refl _, trivial⟩ ⟨ObLe.refl _, ⟨.int hwiv, .refl _, .refl _, trivial⟩, ObLe.refl _, trivial⟩ ?_
    intro i hi
    have hrl : (encRes ((tl.take i).map rsOf)).length ≤ 13 := by rw [encRes_length, List.length_map, List.length_take]; omega
    have hwr : IntKind.i64.wrap ((i : Int) + 1) = ((i + 1 : Nat) : Int) := by rw [wrap_id (by omega)]; omega
    repeat (first | refine wk hT rfl rfl ?_ | refine wd hT rfl rfl rfl ?_ | refine wz hT rfl ?_ | refine AWd_nil ?_ | refine AWk_nil ?_ | refine wh hT rfl rfl rfl rfl ?_ | refine wg hT rfl rfl rfl rfl rfl ?_ | refine AW_seq ?_ | refine AW_region ?_ | refine wx mixed ?_ | refine AW_block ?_ | refine AW_skip ?_ | refine AW_exit ?_ | refine AW_ret ?_)
    refine AW_condL rfl (fun h2 => ?_) (fun h2 => ?_)
    · have hlt : i < tl.length := by simpa using h2
      have hel := hsl i hlt
      have hsucc : (tl.take (i + 1)).map rsOf = (tl.take i).map rsOf ++ [rsOf tl[i]] := by rw [List.take_succ_eq_append_getElem hlt, List.map_append]; rfl
      rw [show (tl[i]?).getD [] = tl[i] by simp [hlt]] at hel
      have htl := htl tl[i] (List.getElem_mem hlt)
      unfold rsOf at hsucc
      have hcx := hcx tl[i] (by omega)
      generalize tl[i] = s at hel htl hcx hsucc
      generalize Lib.cut s [32] = q at hcx hsucc
      obtain ⟨q1, q2, q3⟩ := q
      simp only at hcx hsucc
      have hi1 := hi1 q1
      have hi2 := hi2 q2
      have hb1 := sIdx_bound chk q1
      have hb2 := sIdx_bound vls q2
      have e13 : chk.length = 13 := rfl
      have e4 : vls.length = 4 := rfl
      generalize sIdx chk q1 = u1 at hi1 hb1 hsucc
      generalize sIdx vls q2 = u2 at hi2 hb2 hsucc
      have hw1 : IntKind.i64.wrap (u1 + 1) = u1 + 1 := wrap_id (by omega)
      have hw2 : IntKind.i64.wrap (u2 + 1) = u2 + 1 := wrap_id (by omega)
      have henc : encRes ((tl.take (i + 1)).map rsOf) = encRes ((tl.take i).map rsOf) ++ encRes [(u1 + 1, u2 + 1)] := by
        show encRes ((tl.take (i + 1)).map (fun s => _)) = _
        unfold rsOf
        rw [hsucc]; simp [encRes]
      generalize encRes ((tl.take i).map rsOf) = s1 at hrl henc ⊢
      repeat (first | refine wk hT rfl rfl ?_ | refine wd hT rfl rfl rfl ?_ | refine wz hT rfl ?_ | refine AWd_nil ?_ | refine AWk_nil ?_ | refine wh hT rfl rfl rfl rfl ?_ | refine wg hT rfl rfl rfl rfl rfl ?_ | refine AW_seq ?_ | refine AW_region ?_ | refine wx mixed ?_ | refine AW_block ?_ | refine AW_skip ?_ | refine AW_exit ?_ | refine AW_ret ?_)
      first | refine AWk_op (OpS_of_pure (indexAddr_ok hT rfl rfl rfl rfl (by omega) (hel))) rfl ?_ | refine AWd_op (OpS_of_pure (indexAddr_ok hT rfl rfl rfl rfl (by omega) (hel))) rfl rfl ?_
      repeat (first | refine wk hT rfl rfl ?_ | refine wd hT rfl rfl rfl ?_ | refine wz hT rfl ?_ | refine AWd_nil ?_ | refine AWk_nil ?_ | refine wh hT rfl rfl rfl rfl ?_ | refine wg hT rfl rfl rfl rfl rfl ?_ | refine AW_seq ?_ | refine AW_region ?_ | refine wx mixed ?_ | refine AW_block ?_ | refine AW_skip ?_ | refine AW_exit ?_ | refine AW_ret ?_)
      first | refine AWk_op (callS0 rfl rfl (hcx) rfl rfl rfl) rfl ?_ | refine AWd_op (callS0 rfl rfl (hcx) rfl rfl rfl) rfl rfl ?_ | refine AWk_op (callS0L rfl rfl (hcx) rfl (by repeat (first | exact trivial | exact AV.le.refl _ | exact AV.le.dat | exact AV.le.nils | exact AV.le.nilsf | exact AV.le.any _ | exact ObLe.refl _ | exact ⟨rfl, rfl⟩ | refine AV.le.tup ?_ | refine AV.le.agg ?_ | exact li | exact lb | exact ls | exact lk | exact ld | exact lz | refine ⟨?_, ?_⟩)) rfl rfl) rfl ?_ | refine AWd_op (callS0L rfl rfl (hcx) rfl (by repeat (first | exact trivial | exact AV.le.refl _ | exact AV.le.dat | exact AV.le.nils | exact AV.le.nilsf | exact AV.le.any _ | exact ObLe.refl _ | exact ⟨rfl, rfl⟩ | refine AV.le.tup ?_ | refine AV.le.agg ?_ | exact li | exact lb | exact ls | exact lk | exact ld | exact lz | refine ⟨?_, ?_⟩)) rfl rfl) rfl rfl ?_
      repeat (first | refine wk hT rfl rfl ?_ | refine wd hT rfl rfl rfl ?_ | refine wz hT rfl ?_ | refine AWd_nil ?_ | refine AWk_nil ?_ | refine wh hT rfl rfl rfl rfl ?_ | refine wg hT rfl rfl rfl rfl rfl ?_ | refine AW_seq ?_ | refine AW_region ?_ | refine AW_block ?_ | refine AW_skip ?_ | refine AW_exit ?_ | refine AW_ret ?_)
      refine AW_drawG (fun i => bif Nat.beq i 1 || Nat.beq i 14 then [1] else bif Nat.beq i 12 then [2] else []) (fun i => bif Nat.beq i 14 then [1] else bif Nat.beq i 12 then [2] else []) mixed (by kernel_rfl) ?_
      repeat (first | refine AWg_load hT rfl rfl rfl rfl (by first | exact List.mem_cons_self | exact sm) rfl ?_ | refine AWg_pure hT (fun _ => rfl) rfl rfl (by first | exact True.intro | omega | exact sd) ?_ | refine AWg_store hT rfl rfl rfl (by first | exact List.mem_cons_self | exact sm) rfl ?_ | refine AWd_nil ?_)
      refine AWg_op (os := []) (fun k hk1 hk2 => callS0 rfl rfl (hcs) rfl rfl rfl) rfl ?_
      repeat (first | refine AWg_load hT rfl rfl rfl rfl (by first | exact List.mem_cons_self | exact sm) rfl ?_ | refine AWg_pure hT (fun _ => rfl) rfl rfl (by first | exact True.intro | omega | exact sd) ?_ | refine AWg_store hT rfl rfl rfl (by first | exact List.mem_cons_self | exact sm) rfl ?_ | refine AWd_nil ?_)
      refine AWg_op (os := []) (fun k hk1 hk2 => callS0 rfl rfl (hi1) rfl rfl rfl) rfl ?_
      repeat (first | refine AWg_load hT rfl rfl rfl rfl (by first | exact List.mem_cons_self | exact sm) rfl ?_ | refine AWg_pure hT (fun _ => rfl) rfl rfl (by first | exact True.intro | omega | exact sd) ?_ | refine AWg_store hT rfl rfl rfl (by first | exact List.mem_cons_self | exact sm) rfl ?_ | refine AWd_nil ?_)
      refine AWg_op (os := []) (fun k hk1 hk2 => callS0 rfl rfl (hxs) rfl rfl rfl) rfl ?_
      repeat (first | refine AWg_load hT rfl rfl rfl rfl (by first | exact List.mem_cons_self | exact sm) rfl ?_ | refine AWg_pure hT (fun _ => rfl) rfl rfl (by first | exact True.intro | omega | exact sd) ?_ | refine AWg_store hT rfl rfl rfl (by first | exact List.mem_cons_self | exact sm) rfl ?_ | refine AWd_nil ?_)
      refine AWg_op (os := []) (fun k hk1 hk2 => callS0 rfl rfl (hi2) rfl rfl rfl) rfl ?_
      repeat (first | refine AWg_load hT rfl rfl rfl rfl (by first | exact List.mem_cons_self | exact sm) rfl ?_ | refine AWg_pure hT (fun _ => rfl) rfl rfl (by first | exact True.intro | omega | exact sd) ?_ | refine AWg_store hT rfl rfl rfl (by first | exact List.mem_cons_self | exact sm) rfl ?_ | refine AWd_nil ?_)
      refine AWg_op (os := []) (fun k hk1 hk2 => buildSl_ok hT rfl rfl) rfl ?_
      refine AWg_op (v := .sl 2 (s1 ++ encRes [(IntKind.i64.wrap (u1 + 1), IntKind.i64.wrap (u2 + 1))]) (.right 2)) (os := [.right 2 (s1 ++ encRes [(IntKind.i64.wrap (u1 + 1), IntKind.i64.wrap (u2 + 1))]).length]) (fun k hk1 hk2 => append_rightL (i := 2) hT rfl rfl rfl rfl ((hk2 2 List.mem_cons_self).trans rfl) rfl (by show (s1.length + 1) * (16 + 1) ≤ _; omega)) rfl ?_
      repeat (first | refine AWg_load hT rfl rfl rfl rfl (by first | exact List.mem_cons_self | exact sm) rfl ?_ | refine AWg_pure hT (fun _ => rfl) rfl rfl (by first | exact True.intro | omega | exact sd) ?_ | refine AWg_store hT rfl rfl rfl (by first | exact List.mem_cons_self | exact sm) rfl ?_ | refine AWd_nil ?_)
      repeat (first | refine wk hT rfl rfl ?_ | refine wd hT rfl rfl rfl ?_ | refine wz hT rfl ?_ | refine AWd_nil ?_ | refine AWk_nil ?_ | refine wh hT rfl rfl rfl rfl ?_ | refine wg hT rfl rfl rfl rfl rfl ?_ | refine AW_seq ?_ | refine AW_region ?_ | refine wx mixed ?_ | refine AW_block ?_ | refine AW_skip ?_ | refine AW_exit ?_ | refine AW_ret ?_)
      exact ⟨i + 1, [], by omega, by omega, ⟨.refl _, .refl _, .refl _, .refl _, .refl _, .int hwr, trivial⟩, ⟨ObLe.refl _, ⟨.refl _, .refl _, .slt (by rw [henc, hw1, hw2]), trivial⟩, ⟨rfl, by rw [henc, hw1, hw2]⟩, trivial⟩, Env.below_mono hE (by simp), rfl, rfl⟩
    · have hge : i = tl.length := by simp at h2; omega
      subst hge
      rw [List.take_length]
      have hT1 := hT1 (by simp; omega) hab (by omega) (fun r hr => by
        obtain ⟨s, -, rfl⟩ := List.mem_map.1 hr
        have := rsOf_bound s
        omega)
      generalize textF ⟨iv + 1, n, tl.map rsOf⟩ = tx at hT1 hfin
      generalize tl.map rsOf = rs at hT1 hfin ⊢
      unfold decAV decCells at hT1
      simp only at hT1
      refine AW_subL (l := [(0, .d (.str text)), (2, .ptr 0 0), (8, .ptr 1 0)]) (h' := [.row [.d (.int .i64 0), .d (.int .i64 0), .sl 2 [] .full], .row [.d (.int .i64 (iv + 1)), .d (.int .i64 n), .d (.sl 2 (encRes rs))], .dead]) ⟨.refl _, .refl _, .refl _, trivial⟩ ⟨ObLe.refl _, ⟨.refl _, .refl _, .dat, trivial⟩, trivial, trivial⟩ ?_
      repeat (first | refine wk hT rfl rfl ?_ | refine wd hT rfl rfl rfl ?_ | refine wz hT rfl ?_ | refine AWd_nil ?_ | refine AWk_nil ?_ | refine wh hT rfl rfl rfl rfl ?_ | refine wg hT rfl rfl rfl rfl rfl ?_ | refine AW_seq ?_ | refine AW_region ?_ | refine wx mixed ?_ | refine AW_block ?_ | refine AW_skip ?_ | refine AW_exit ?_ | refine AW_ret ?_)
      first | refine AWk_op (callS0 rfl rfl (hT1) rfl rfl rfl) rfl ?_ | refine AWd_op (callS0 rfl rfl (hT1) rfl rfl rfl) rfl rfl ?_ | refine AWk_op (callS0L rfl rfl (hT1) rfl (by repeat (first | exact trivial | exact AV.le.refl _ | exact AV.le.dat | exact AV.le.nils | exact AV.le.nilsf | exact AV.le.any _ | exact ObLe.refl _ | exact ⟨rfl, rfl⟩ | refine AV.le.tup ?_ | refine AV.le.agg ?_ | exact li | exact lb | exact ls | exact lk | exact ld | exact lz | refine ⟨?_, ?_⟩)) rfl rfl) rfl ?_ | refine AWd_op (callS0L rfl rfl (hT1) rfl (by repeat (first | exact trivial | exact AV.le.refl _ | exact AV.le.dat | exact AV.le.nils | exact AV.le.nilsf | exact AV.le.any _ | exact ObLe.refl _ | exact ⟨rfl, rfl⟩ | refine AV.le.tup ?_ | refine AV.le.agg ?_ | exact li | exact lb | exact ls | exact lk | exact ld | exact lz | refine ⟨?_, ?_⟩)) rfl rfl) rfl rfl ?_
      repeat (first | refine wk hT rfl rfl ?_ | refine wd hT rfl rfl rfl ?_ | refine wz hT rfl ?_ | refine AWd_nil ?_ | refine AWk_nil ?_ | refine wh hT rfl rfl rfl rfl ?_ | refine wg hT rfl rfl rfl rfl rfl ?_ | refine AW_seq ?_ | refine AW_region ?_ | refine wx mixed ?_ | refine AW_block ?_ | refine AW_skip ?_ | refine AW_exit ?_ | refine AW_ret ?_)
      refine AW_condL rfl (fun h3 => ?_) (fun h3 => ?_)
      · have h3' : tx = [] ∨ tx ≠ text := by
          cases tx with
          | nil => exact .inl rfl
          | cons b l => simp at h3; simp; exact h3
        rw [if_pos h3'] at hfin
        subst hfin
        repeat (first | refine wk hT rfl rfl ?_ | refine wd hT rfl rfl rfl ?_ | refine wz hT rfl ?_ | refine AWd_nil ?_ | refine AWk_nil ?_ | refine wh hT rfl rfl rfl rfl ?_ | refine wg hT rfl rfl rfl rfl rfl ?_ | refine AW_seq ?_ | refine AW_region ?_ | refine wx mixed ?_ | refine AW_block ?_ | refine AW_skip ?_ | refine AW_exit ?_ | refine AW_ret ?_)
        exact rq (r := .tup [decAV ⟨0, 0, []⟩, .d (.int .i64 71)]) ⟨rfl, rfl⟩ rfl (AV.le.tup ⟨AV.le.agg ⟨.refl _, .refl _, AV.le.dat, trivial⟩, .refl _, trivial⟩)
      · have h3' : ¬ (tx = [] ∨ tx ≠ text) := by
          cases tx with
          | nil => simp at h3
          | cons b l => simp at h3; simp; exact h3
        rw [if_neg h3'] at hfin
        subst hfin
        repeat (first | refine wk hT rfl rfl ?_ | refine wd hT rfl rfl rfl ?_ | refine wz hT rfl ?_ | refine AWd_nil ?_ | refine AWk_nil ?_ | refine wh hT rfl rfl rfl rfl ?_ | refine wg hT rfl rfl rfl rfl rfl ?_ | refine AW_seq ?_ | refine AW_region ?_ | refine wx mixed ?_ | refine AW_block ?_ | refine AW_skip ?_ | refine AW_exit ?_ | refine AW_ret ?_)
        exact rq (r := .tup [decAV ⟨iv + 1, n, rs⟩, .d (.int .i64 0)]) ⟨rfl, rfl⟩ rfl (AV.le.tup ⟨AV.le.agg ⟨.refl _, .refl _, .refl _, trivial⟩, .refl _, trivial⟩)
end Tdoc
