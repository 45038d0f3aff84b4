/- Reading a decision: the reference. -/
import Derived.Test.YtoaogfehdalmdaaGreatDoorK7
import Derived.Lib.AtoiTie
set_option linter.unusedVariables false
set_option linter.unusedSimpArgs false
namespace Tdoc
open Go Go.Proofs

def mX (s : List UInt8) (c : Nat) : Nat → Nat → List Res
  | 0, _ => []
  | k + 1, x => (if s = lineF (((c + 1 : Nat) : Int), ((x + 1 : Nat) : Int)) then [(((c + 1 : Nat) : Int), ((x + 1 : Nat) : Int))] else []) ++ mX s c k (x + 1)
def mC (s : List UInt8) : Nat → Nat → List Res
  | 0, _ => []
  | k + 1, c => mX s c 4 0 ++ mC s k (c + 1)
/-- The reasons that the reference finds. -/
def rsR : List (List UInt8) → List Res
  | [] => []
  | s :: tl => mC s 13 0 ++ rsR tl
def hitR (text a : List UInt8) (tl : List (List UInt8)) (j k : Nat) : Option (Decn × Int) :=
  if a = firstF ⟨((j + 1 : Nat) : Int), (k : Int) - 1, []⟩ ∧ textF ⟨((j + 1 : Nat) : Int), (k : Int) - 1, rsR tl⟩ = text then some (⟨((j + 1 : Nat) : Int), (k : Int) - 1, rsR tl⟩, 0) else none
def innerF (g : Nat → Option (Decn × Int)) : Nat → Nat → Decn × Int → Decn × Int
  | 0, _, z => z
  | m + 1, k, z => (g k).getD (innerF g m (k + 1) z)
def outerF (g : Nat → Nat → Option (Decn × Int)) : Nat → Nat → Decn × Int
  | 0, _ => (⟨0, 0, []⟩, 71)
  | m + 1, j => innerF (g j) 33 0 (outerF g m (j + 1))
def readM (text a : List UInt8) (tl : List (List UInt8)) : Decn × Int :=
  if 13 < tl.length then (⟨0, 0, []⟩, 71) else outerF (hitR text a tl) 3 0
/-- What the reference reads. -/
def readR (text : List UInt8) : Decn × Int := match lnR text with
  | [] => (⟨0, 0, []⟩, 71)
  | a :: tl => readM text a tl

theorem mX_len (s : List UInt8) (c : Nat) : ∀ k x, (mX s c k x).length ≤ k
  | 0, _ => by simp [mX]
  | k + 1, x => by
    have := mX_len s c k (x + 1)
    rw [mX, List.length_append]
    split <;> simp <;> omega
theorem mC_len (s : List UInt8) : ∀ k c, (mC s k c).length ≤ 4 * k
  | 0, _ => by simp [mC]
  | k + 1, c => by
    have := mC_len s k (c + 1)
    have := mX_len s c 4 0
    rw [mC, List.length_append]; omega
theorem rsR_len : ∀ tl : List (List UInt8), (rsR tl).length ≤ 52 * tl.length
  | [] => by simp [rsR]
  | s :: tl => by
    have := rsR_len tl
    have := mC_len s 13 0
    rw [rsR, List.length_append]; simp; omega
theorem mX_mem (s : List UInt8) (c : Nat) : ∀ k x r, r ∈ mX s c k x → (r.1 = ((c + 1 : Nat) : Int)) ∧ (1 ≤ r.2 ∧ r.2 ≤ x + k) ∧ s = lineF r
  | 0, _, r, h => by simp [mX] at h
  | k + 1, x, r, h => by
    rw [mX, List.mem_append] at h
    rcases h with h | h
    · split at h
      · rename_i he
        rw [List.mem_singleton] at h; subst h
        exact ⟨rfl, by simp only; omega, he⟩
      · cases h
    · have := mX_mem s c k (x + 1) r h
      exact ⟨this.1, by omega, this.2.2⟩
theorem mC_mem (s : List UInt8) : ∀ k c r, r ∈ mC s k c → (1 ≤ r.1 ∧ r.1 ≤ c + k) ∧ (1 ≤ r.2 ∧ r.2 ≤ 4) ∧ s = lineF r
  | 0, _, r, h => by simp [mC] at h
  | k + 1, c, r, h => by
    rw [mC, List.mem_append] at h
    rcases h with h | h
    · have := mX_mem s c 4 0 r h
      exact ⟨by omega, by omega, this.2.2⟩
    · have := mC_mem s k (c + 1) r h
      exact ⟨by omega, this.2.1, this.2.2⟩
theorem rsR_mem : ∀ (tl : List (List UInt8)) r, r ∈ rsR tl → (1 ≤ r.1 ∧ r.1 ≤ 13) ∧ (1 ≤ r.2 ∧ r.2 ≤ 4)
  | [], r, h => by simp [rsR] at h
  | s :: tl, r, h => by
    rw [rsR, List.mem_append] at h
    rcases h with h | h
    · have := mC_mem s 13 0 r h
      exact ⟨by omega, this.2.1⟩
    · exact rsR_mem tl r h

set_option maxHeartbeats 8000000 in
set_option maxRecDepth 100000 in
theorem ReadR_spec (text : List UInt8) (hs : text.length ≤ 1000) : Spec Tryz.prog 17 [.d (.str text)] [] (fun r h' => r = .tup [decAV (readR text).1, .d (.int .i64 (readR text).2)] ∧ h' = []) := by
  have hsp := lines_spec text (by omega)
  have hll := lnR_len text
  have hlm := lnR_mem text
  unfold readR
  have hne := lnR_ne text
  generalize hfin : (match lnR text with
    | [] => ((⟨0, 0, []⟩, 71) : Decn × Int)
    | a :: tl => readM text a tl) = fin
  generalize lnR text = ls at hfin hsp hll hlm hne
  cases ls with
  | nil => exact absurd rfl hne
  | cons a tl =>
  simp only at hfin
  have hal := hlm a List.mem_cons_self
  have htl := fun x hx => hlm x (List.mem_cons_of_mem _ hx)
  have hvd := VerdictR_spec
  have hvl := vds_len
  have hdc := decimal_spec
  have hdl := itoa_len
  have hcs := CheckR_spec
  have hcl := chk_len
  have hxs := ValueR_spec
  have hxl := vls_len
  unfold readM at hfin
  have hlen := strsAV_length (a :: tl)
  have hel0 : (strsAV (a :: tl))[((0 : Int)).toNat]? = some [.str a] := rfl
  have hsl : ∀ i, (hi : i < tl.length) → (strsAV (a :: tl))[(((i + 1 : Nat) : Int)).toNat]? = some [.str tl[i]] := fun i hi => by simp [strsAV, hi]
  have hrl := rsR_len tl
  have hrm := rsR_mem tl
  generalize hss : strsAV (a :: tl) = ss at hsp hlen hel0 hsl
  simp only [List.length_cons] at hlen hll
  refine Spec_of_body hT Tryz.func17 rfl rfl rfl rfl ?_
  intro E hE
  repeat (first | refine wk hT rfl rfl ?_ | refine wd hT rfl rfl rfl ?_ | refine wz hT rfl ?_ | refine AWd_nil ?_ | refine AWk_nil ?_ | refine wh hT rfl rfl rfl rfl ?_ | refine wg hT rfl rfl rfl rfl rfl ?_ | refine AW_seq ?_ | refine AW_region ?_ | refine wx mixed ?_ | refine AW_block ?_ | refine AW_skip ?_ | refine AW_exit ?_ | refine AW_ret ?_)
  first | refine AWk_op (callS0 rfl rfl (hsp) rfl rfl rfl) rfl ?_ | refine AWd_op (callS0 rfl rfl (hsp) rfl rfl rfl) rfl rfl ?_ | refine AWk_op (callS0L rfl rfl (hsp) rfl (by repeat (first | exact trivial | exact AV.le.refl _ | exact AV.le.dat | exact AV.le.nils | exact AV.le.nilsf | exact AV.le.any _ | exact ObLe.refl _ | exact ⟨rfl, rfl⟩ | refine AV.le.tup ?_ | refine AV.le.agg ?_ | exact li | exact lb | exact ls | exact lk | exact ld | exact lz | refine ⟨?_, ?_⟩)) rfl rfl) rfl ?_ | refine AWd_op (callS0L rfl rfl (hsp) rfl (by repeat (first | exact trivial | exact AV.le.refl _ | exact AV.le.dat | exact AV.le.nils | exact AV.le.nilsf | exact AV.le.any _ | exact ObLe.refl _ | exact ⟨rfl, rfl⟩ | refine AV.le.tup ?_ | refine AV.le.agg ?_ | exact li | exact lb | exact ls | exact lk | exact ld | exact lz | refine ⟨?_, ?_⟩)) rfl rfl) rfl rfl ?_
  repeat (first | refine wk hT rfl rfl ?_ | refine wd hT rfl rfl rfl ?_ | refine wz hT rfl ?_ | refine AWd_nil ?_ | refine AWk_nil ?_ | refine wh hT rfl rfl rfl rfl ?_ | refine wg hT rfl rfl rfl rfl rfl ?_ | refine AW_seq ?_ | refine AW_region ?_ | refine wx mixed ?_ | refine AW_block ?_ | refine AW_skip ?_ | refine AW_exit ?_ | refine AW_ret ?_)
  refine AW_condL rfl (fun h1 => ?_) (fun h1 => ?_)
  · have h1' : 13 < tl.length := by rw [hlen] at h1; simp at h1; omega
    rw [if_pos h1'] at hfin
    subst hfin
    repeat (first | refine wk hT rfl rfl ?_ | refine wd hT rfl rfl rfl ?_ | refine wz hT rfl ?_ | refine AWd_nil ?_ | refine AWk_nil ?_ | refine wh hT rfl rfl rfl rfl ?_ | refine wg hT rfl rfl rfl rfl rfl ?_ | refine AW_seq ?_ | refine AW_region ?_ | refine wx mixed ?_ | refine AW_block ?_ | refine AW_skip ?_ | refine AW_exit ?_ | refine AW_ret ?_)
    exact rq (r := .tup [decAV ⟨0, 0, []⟩, .d (.int .i64 71)]) ⟨rfl, rfl⟩ rfl (AV.le.tup ⟨AV.le.agg ⟨.refl _, .refl _, AV.le.dat, trivial⟩, .refl _, trivial⟩)
  · have h1' : ¬ 13 < tl.length := by rw [hlen] at h1; simp at h1; omega
    rw [if_neg h1'] at hfin
    generalize hg : hitR text a tl = g at hfin
    repeat (first | refine wk hT rfl rfl ?_ | refine wd hT rfl rfl rfl ?_ | refine wz hT rfl ?_ | refine AWd_nil ?_ | refine AWk_nil ?_ | refine wh hT rfl rfl rfl rfl ?_ | refine wg hT rfl rfl rfl rfl rfl ?_ | refine AW_seq ?_ | refine AW_region ?_ | refine wx mixed ?_ | refine AW_block ?_ | refine AW_skip ?_ | refine AW_exit ?_ | refine AW_ret ?_)
    refine AW_loopC (ι := Nat) (fun j => [(0, .d (.str text)), (2, .ptr 0 0), (4, .d (.sl 1 ss)), (5, .d (.int .i64 ((j + 1 : Nat) : Int)))]) (fun _ => [.row [.d (.int .i64 0), .d (.int .i64 0), .sl 2 [] .full]])
      (fun j => j ≤ 3 ∧ outerF g (3 - j) j = fin) (fun j => 3 - j) 0 ⟨by omega, hfin⟩ ⟨.refl _, .refl _, .refl _, .refl _, trivial⟩ (HLe.refl _) ?_
    rintro j ⟨hj, hgo⟩
    have hwj : IntKind.i64.wrap (((j + 1 : Nat) : Int) + 1) = ((j + 1 + 1 : Nat) : Int) := by rw [wrap_id (by omega)]; omega
    repeat (first | refine wk hT rfl rfl ?_ | refine wd hT rfl rfl rfl ?_ | refine wz hT rfl ?_ | refine AWd_nil ?_ | refine AWk_nil ?_ | refine wh hT rfl rfl rfl rfl ?_ | refine wg hT rfl rfl rfl rfl rfl ?_ | refine AW_seq ?_ | refine AW_region ?_ | refine wx mixed ?_ | refine AW_block ?_ | refine AW_skip ?_ | refine AW_exit ?_ | refine AW_ret ?_)
    refine AW_condL rfl (fun h2 => ?_) (fun h2 => ?_)
    · have hj3 : j < 3 := by simp at h2; omega
      obtain ⟨m, hm⟩ : ∃ m, 3 - j = m + 1 := ⟨2 - j, by omega⟩
      rw [hm, outerF] at hgo
      repeat (first | refine wk hT rfl rfl ?_ | refine wd hT rfl rfl rfl ?_ | refine wz hT rfl ?_ | refine AWd_nil ?_ | refine AWk_nil ?_ | refine wh hT rfl rfl rfl rfl ?_ | refine wg hT rfl rfl rfl rfl rfl ?_ | refine AW_seq ?_ | refine AW_region ?_ | refine wx mixed ?_ | refine AW_block ?_ | refine AW_skip ?_ | refine AW_exit ?_ | refine AW_ret ?_)
      refine AW_loopC (ι := Nat) (fun k => [(0, .d (.str text)), (2, .ptr 0 0), (4, .d (.sl 1 ss)), (5, .d (.int .i64 ((j + 1 : Nat) : Int))), (6, .d (.int .i64 ((k : Int) - 1)))]) (fun _ => [.row [.d (.int .i64 0), .d (.int .i64 0), .sl 2 [] .full]])
        (fun k => k ≤ 33 ∧ innerF (g j) (33 - k) k (outerF g m (j + 1)) = fin) (fun k => 33 - k) 0 ⟨by omega, hgo⟩ ⟨.refl _, .refl _, .refl _, .refl _, .refl _, trivial⟩ (HLe.refl _) ?_
      rintro k ⟨hk, hgi⟩
      have hwk : IntKind.i64.wrap (((k : Int) - 1) + 1) = ((k + 1 : Nat) : Int) - 1 := by rw [wrap_id (by omega)]; omega
      repeat (first | refine wk hT rfl rfl ?_ | refine wd hT rfl rfl rfl ?_ | refine wz hT rfl ?_ | refine AWd_nil ?_ | refine AWk_nil ?_ | refine wh hT rfl rfl rfl rfl ?_ | refine wg hT rfl rfl rfl rfl rfl ?_ | refine AW_seq ?_ | refine AW_region ?_ | refine wx mixed ?_ | refine AW_block ?_ | refine AW_skip ?_ | refine AW_exit ?_ | refine AW_ret ?_)
      refine AW_condL rfl (fun h3 => ?_) (fun h3 => ?_)
      · have hk3 : k < 33 := by simp at h3; omega
        obtain ⟨q, hq⟩ : ∃ q, 33 - k = q + 1 := ⟨32 - k, by omega⟩
        rw [hq, innerF, ← hg, hitR] at hgi
        rw [hg] at hgi
        have hvd := hvd ((j + 1 : Nat) : Int)
        have hvl := hvl ((j + 1 : Nat) : Int)
        have hdc := hdc ((k : Int) - 1) (by omega)
        have hdl := hdl ((k : Int) - 1) (by omega)
        unfold firstF at hgi
        simp only at hgi
        generalize nameOf vds ((j + 1 : Nat) : Int) = nm at hvd hvl hgi
        generalize Lib.itoa ((k : Int) - 1) = it at hdc hdl hgi
        repeat (first | refine wk hT rfl rfl ?_ | refine wd hT rfl rfl rfl ?_ | refine wz hT rfl ?_ | refine AWd_nil ?_ | refine AWk_nil ?_ | refine wh hT rfl rfl rfl rfl ?_ | refine wg hT rfl rfl rfl rfl rfl ?_ | refine AW_seq ?_ | refine AW_region ?_ | refine wx mixed ?_ | refine AW_block ?_ | refine AW_skip ?_ | refine AW_exit ?_ | refine AW_ret ?_)
        first | refine AWk_op (OpS_of_pure (indexAddr_ok hT rfl rfl rfl rfl (by omega) (hel0))) rfl ?_ | refine AWd_op (OpS_of_pure (indexAddr_ok hT rfl rfl rfl rfl (by omega) (hel0))) rfl rfl ?_
        repeat (first | refine wk hT rfl rfl ?_ | refine wd hT rfl rfl rfl ?_ | refine wz hT rfl ?_ | refine AWd_nil ?_ | refine AWk_nil ?_ | refine wh hT rfl rfl rfl rfl ?_ | refine wg hT rfl rfl rfl rfl rfl ?_ | refine AW_seq ?_ | refine AW_region ?_ | refine wx mixed ?_ | refine AW_block ?_ | refine AW_skip ?_ | refine AW_exit ?_ | refine AW_ret ?_)
        first | refine AWk_op (callS0 rfl rfl (hvd) rfl rfl rfl) rfl ?_ | refine AWd_op (callS0 rfl rfl (hvd) rfl rfl rfl) rfl rfl ?_ | refine AWk_op (callS0L rfl rfl (hvd) rfl (by repeat (first | exact trivial | exact AV.le.refl _ | exact AV.le.dat | exact AV.le.nils | exact AV.le.nilsf | exact AV.le.any _ | exact ObLe.refl _ | exact ⟨rfl, rfl⟩ | refine AV.le.tup ?_ | refine AV.le.agg ?_ | exact li | exact lb | exact ls | exact lk | exact ld | exact lz | refine ⟨?_, ?_⟩)) rfl rfl) rfl ?_ | refine AWd_op (callS0L rfl rfl (hvd) rfl (by repeat (first | exact trivial | exact AV.le.refl _ | exact AV.le.dat | exact AV.le.nils | exact AV.le.nilsf | exact AV.le.any _ | exact ObLe.refl _ | exact ⟨rfl, rfl⟩ | refine AV.le.tup ?_ | refine AV.le.agg ?_ | exact li | exact lb | exact ls | exact lk | exact ld | exact lz | refine ⟨?_, ?_⟩)) rfl rfl) rfl rfl ?_
        repeat (first | refine wk hT rfl rfl ?_ | refine wd hT rfl rfl rfl ?_ | refine wz hT rfl ?_ | refine AWd_nil ?_ | refine AWk_nil ?_ | refine wh hT rfl rfl rfl rfl ?_ | refine wg hT rfl rfl rfl rfl rfl ?_ | refine AW_seq ?_ | refine AW_region ?_ | refine wx mixed ?_ | refine AW_block ?_ | refine AW_skip ?_ | refine AW_exit ?_ | refine AW_ret ?_)
        first | refine AWk_op (callS0 rfl rfl (hdc) rfl rfl rfl) rfl ?_ | refine AWd_op (callS0 rfl rfl (hdc) rfl rfl rfl) rfl rfl ?_ | refine AWk_op (callS0L rfl rfl (hdc) rfl (by repeat (first | exact trivial | exact AV.le.refl _ | exact AV.le.dat | exact AV.le.nils | exact AV.le.nilsf | exact AV.le.any _ | exact ObLe.refl _ | exact ⟨rfl, rfl⟩ | refine AV.le.tup ?_ | refine AV.le.agg ?_ | exact li | exact lb | exact ls | exact lk | exact ld | exact lz | refine ⟨?_, ?_⟩)) rfl rfl) rfl ?_ | refine AWd_op (callS0L rfl rfl (hdc) rfl (by repeat (first | exact trivial | exact AV.le.refl _ | exact AV.le.dat | exact AV.le.nils | exact AV.le.nilsf | exact AV.le.any _ | exact ObLe.refl _ | exact ⟨rfl, rfl⟩ | refine AV.le.tup ?_ | refine AV.le.agg ?_ | exact li | exact lb | exact ls | exact lk | exact ld | exact lz | refine ⟨?_, ?_⟩)) rfl rfl) rfl rfl ?_
        repeat (first | refine wk hT rfl rfl ?_ | refine wd hT rfl rfl rfl ?_ | refine wz hT rfl ?_ | refine AWd_nil ?_ | refine AWk_nil ?_ | refine wh hT rfl rfl rfl rfl ?_ | refine wg hT rfl rfl rfl rfl rfl ?_ | refine AW_seq ?_ | refine AW_region ?_ | refine wx mixed ?_ | refine AW_block ?_ | refine AW_skip ?_ | refine AW_exit ?_ | refine AW_ret ?_)
        refine AW_condL rfl (fun h4 => ?_) (fun h4 => ?_)
        · have h4' : ¬ a = nm ++ [32] ++ it := by simpa using h4
          rw [if_neg (fun hh => h4' hh.1), Option.getD_none] at hgi
          repeat (first | refine wk hT rfl rfl ?_ | refine wd hT rfl rfl rfl ?_ | refine wz hT rfl ?_ | refine AWd_nil ?_ | refine AWk_nil ?_ | refine wh hT rfl rfl rfl rfl ?_ | refine wg hT rfl rfl rfl rfl rfl ?_ | refine AW_seq ?_ | refine AW_region ?_ | refine wx mixed ?_ | refine AW_block ?_ | refine AW_skip ?_ | refine AW_exit ?_ | refine AW_ret ?_)
          exact ⟨k + 1, [], ⟨by omega, by rw [show 33 - (k + 1) = q by omega]; exact hgi⟩, by omega, ⟨.refl _, .refl _, .refl _, .refl _, .int hwk, trivial⟩, HLe.refl _, Env.below_mono hE (by simp), rfl, rfl⟩
        · have h4' : a = nm ++ [32] ++ it := by simpa using h4
          have hgi2 : (if textF ⟨((j + 1 : Nat) : Int), (k : Int) - 1, rsR tl⟩ = text then some ((⟨((j + 1 : Nat) : Int), (k : Int) - 1, rsR tl⟩ : Decn), (0 : Int)) else none).getD (innerF (g j) q (k + 1) (outerF g m (j + 1))) = fin := by
            rw [← hgi]
            simp [h4']
          clear hgi
          have hT1 := TextR_spec ⟨((j + 1 : Nat) : Int), (k : Int) - 1, rsR tl⟩ (by simp only; omega) (by simp only; omega) (by simp only; omega) (fun r hr => by have := hrm r hr; omega)
          generalize textF ⟨((j + 1 : Nat) : Int), (k : Int) - 1, rsR tl⟩ = tx at hT1 hgi2
          generalize hRS : rsR tl = RS at hT1 hgi2 hrl
          repeat (first | refine wk hT rfl rfl ?_ | refine wd hT rfl rfl rfl ?_ | refine wz hT rfl ?_ | refine AWd_nil ?_ | refine AWk_nil ?_ | refine wh hT rfl rfl rfl rfl ?_ | refine wg hT rfl rfl rfl rfl rfl ?_ | refine AW_seq ?_ | refine AW_region ?_ | refine wx mixed ?_ | refine AW_block ?_ | refine AW_skip ?_ | refine AW_exit ?_ | refine AW_ret ?_)
          refine AW_room (AW_acquireH 1 2 2 2 rfl rfl rfl ?_)
          refine AW_loopC (ι := List Res × Nat) (fun x => [(0, .d (.str text)), (2, .ptr 0 0), (4, .d (.sl 1 ss)), (5, .d (.int .i64 ((j + 1 : Nat) : Int))), (6, .d (.int .i64 ((k : Int) - 1))), (7, .ptr 1 0), (8, .d (.int .i64 ((x.2 + 1 : Nat) : Int)))]) (fun x => [.row [.d (.int .i64 0), .d (.int .i64 0), .sl 2 [] .full], .row [.d (.int .i64 ((j + 1 : Nat) : Int)), .d (.int .i64 ((k : Int) - 1)), .sl 2 (encRes x.1) (.right 2)], .right 2 (encRes x.1).length]) (fun x => x.2 ≤ tl.length ∧ x.1 ++ rsR (tl.drop x.2) = RS) (fun x => tl.length - x.2) ([], 0) ⟨by omega, hRS⟩
            ⟨.refl _, .refl _, .refl _, .refl _, .refl _, .refl _, .refl _, trivial⟩ ⟨ObLe.refl _, ObLe.refl _, ObLe.refl _, trivial⟩ ?_
          rintro ⟨acc, n⟩ ⟨hn, hacc⟩
          simp only at hn hacc ⊢
          have hwn : IntKind.i64.wrap (((n + 1 : Nat) : Int) + 1) = ((n + 1 + 1 : Nat) : Int) := by rw [wrap_id (by omega)]; omega
          repeat (first | refine wk hT rfl rfl ?_ | refine wd hT rfl rfl rfl ?_ | refine wz hT rfl ?_ | refine AWd_nil ?_ | refine AWk_nil ?_ | refine wh hT rfl rfl rfl rfl ?_ | refine wg hT rfl rfl rfl rfl rfl ?_ | refine AW_seq ?_ | refine AW_region ?_ | refine wx mixed ?_ | refine AW_block ?_ | refine AW_skip ?_ | refine AW_exit ?_ | refine AW_ret ?_)
          refine AW_condL rfl (fun h5 => ?_) (fun h5 => ?_)
          · have hn2 : n < tl.length := by rw [hlen] at h5; simp at h5; omega
            have hel := hsl n hn2
            have htn := htl tl[n] (List.getElem_mem hn2)
            rw [show tl.drop n = tl[n] :: tl.drop (n + 1) by simp, rsR] at hacc
            generalize tl[n] = s at hel htn hacc
            generalize hR : rsR (tl.drop (n + 1)) = R at hacc
            repeat (first | refine wk hT rfl rfl ?_ | refine wd hT rfl rfl rfl ?_ | refine wz hT rfl ?_ | refine AWd_nil ?_ | refine AWk_nil ?_ | refine wh hT rfl rfl rfl rfl ?_ | refine wg hT rfl rfl rfl rfl rfl ?_ | refine AW_seq ?_ | refine AW_region ?_ | refine wx mixed ?_ | refine AW_block ?_ | refine AW_skip ?_ | refine AW_exit ?_ | refine AW_ret ?_)
            refine AW_loopC (ι := List Res × Nat) (fun x => [(0, .d (.str text)), (2, .ptr 0 0), (4, .d (.sl 1 ss)), (5, .d (.int .i64 ((j + 1 : Nat) : Int))), (6, .d (.int .i64 ((k : Int) - 1))), (7, .ptr 1 0), (8, .d (.int .i64 ((n + 1 : Nat) : Int))), (9, .d (.int .i64 ((x.2 + 1 : Nat) : Int)))]) (fun x => [.row [.d (.int .i64 0), .d (.int .i64 0), .sl 2 [] .full], .row [.d (.int .i64 ((j + 1 : Nat) : Int)), .d (.int .i64 ((k : Int) - 1)), .sl 2 (encRes x.1) (.right 2)], .right 2 (encRes x.1).length]) (fun x => x.2 ≤ 13 ∧ x.1 ++ (mC s (13 - x.2) x.2 ++ R) = RS) (fun x => 13 - x.2) (acc, 0) ⟨by omega, hacc⟩
              ⟨.refl _, .refl _, .refl _, .refl _, .refl _, .refl _, .refl _, .refl _, trivial⟩ ⟨ObLe.refl _, ObLe.refl _, ObLe.refl _, trivial⟩ ?_
            clear hacc acc
            rintro ⟨acc, c⟩ ⟨hc, hacc⟩
            simp only at hc hacc ⊢
            have hwc : IntKind.i64.wrap (((c + 1 : Nat) : Int) + 1) = ((c + 1 + 1 : Nat) : Int) := by rw [wrap_id (by omega)]; omega
            repeat (first | refine wk hT rfl rfl ?_ | refine wd hT rfl rfl rfl ?_ | refine wz hT rfl ?_ | refine AWd_nil ?_ | refine AWk_nil ?_ | refine wh hT rfl rfl rfl rfl ?_ | refine wg hT rfl rfl rfl rfl rfl ?_ | refine AW_seq ?_ | refine AW_region ?_ | refine wx mixed ?_ | refine AW_block ?_ | refine AW_skip ?_ | refine AW_exit ?_ | refine AW_ret ?_)
            refine AW_condL rfl (fun h6 => ?_) (fun h6 => ?_)
            · have hc2 : c < 13 := by simp at h6; omega
              rw [show 13 - c = (12 - c) + 1 by omega, mC, List.append_assoc] at hacc
              generalize hR2 : mC s (12 - c) (c + 1) ++ R = R2 at hacc
              repeat (first | refine wk hT rfl rfl ?_ | refine wd hT rfl rfl rfl ?_ | refine wz hT rfl ?_ | refine AWd_nil ?_ | refine AWk_nil ?_ | refine wh hT rfl rfl rfl rfl ?_ | refine wg hT rfl rfl rfl rfl rfl ?_ | refine AW_seq ?_ | refine AW_region ?_ | refine wx mixed ?_ | refine AW_block ?_ | refine AW_skip ?_ | refine AW_exit ?_ | refine AW_ret ?_)
              refine AW_loopC (ι := List Res × Nat) (fun x => [(0, .d (.str text)), (2, .ptr 0 0), (4, .d (.sl 1 ss)), (5, .d (.int .i64 ((j + 1 : Nat) : Int))), (6, .d (.int .i64 ((k : Int) - 1))), (7, .ptr 1 0), (8, .d (.int .i64 ((n + 1 : Nat) : Int))), (9, .d (.int .i64 ((c + 1 : Nat) : Int))), (10, .d (.int .i64 ((x.2 + 1 : Nat) : Int)))]) (fun x => [.row [.d (.int .i64 0), .d (.int .i64 0), .sl 2 [] .full], .row [.d (.int .i64 ((j + 1 : Nat) : Int)), .d (.int .i64 ((k : Int) - 1)), .sl 2 (encRes x.1) (.right 2)], .right 2 (encRes x.1).length]) (fun x => x.2 ≤ 4 ∧ x.1 ++ (mX s c (4 - x.2) x.2 ++ R2) = RS) (fun x => 4 - x.2) (acc, 0) ⟨by omega, hacc⟩
                ⟨.refl _, .refl _, .refl _, .refl _, .refl _, .refl _, .refl _, .refl _, .refl _, trivial⟩ ⟨ObLe.refl _, ObLe.refl _, ObLe.refl _, trivial⟩ ?_
              clear hacc acc
              rintro ⟨acc, x⟩ ⟨hx, hacc⟩
              simp only at hx hacc ⊢
              have hwx : IntKind.i64.wrap (((x + 1 : Nat) : Int) + 1) = ((x + 1 + 1 : Nat) : Int) := by rw [wrap_id (by omega)]; omega
              repeat (first | refine wk hT rfl rfl ?_ | refine wd hT rfl rfl rfl ?_ | refine wz hT rfl ?_ | refine AWd_nil ?_ | refine AWk_nil ?_ | refine wh hT rfl rfl rfl rfl ?_ | refine wg hT rfl rfl rfl rfl rfl ?_ | refine AW_seq ?_ | refine AW_region ?_ | refine wx mixed ?_ | refine AW_block ?_ | refine AW_skip ?_ | refine AW_exit ?_ | refine AW_ret ?_)
              refine AW_condL rfl (fun h7 => ?_) (fun h7 => ?_)
              · have hx2 : x < 4 := by simp at h7; omega
                have hal2 : (encRes acc).length ≤ 1000 := by
                  rw [encRes_length]
                  have := congrArg List.length hacc
                  rw [List.length_append] at this; omega
                rw [show 4 - x = (3 - x) + 1 by omega, mX] at hacc
                have hcs := hcs ((c + 1 : Nat) : Int)
                have hcl := hcl ((c + 1 : Nat) : Int)
                have hxs := hxs ((x + 1 : Nat) : Int)
                have hxl := hxl ((x + 1 : Nat) : Int)
                have henc : encRes (acc ++ [(((c + 1 : Nat) : Int), ((x + 1 : Nat) : Int))]) = encRes acc ++ encRes [(((c + 1 : Nat) : Int), ((x + 1 : Nat) : Int))] := by simp [encRes]
                unfold lineF at hacc
                simp only at hacc
                generalize nameOf chk ((c + 1 : Nat) : Int) = nc at hcs hcl hacc
                generalize nameOf vls ((x + 1 : Nat) : Int) = nx at hxs hxl hacc
                repeat (first | refine wk hT rfl rfl ?_ | refine wd hT rfl rfl rfl ?_ | refine wz hT rfl ?_ | refine AWd_nil ?_ | refine AWk_nil ?_ | refine wh hT rfl rfl rfl rfl ?_ | refine wg hT rfl rfl rfl rfl rfl ?_ | refine AW_seq ?_ | refine AW_region ?_ | refine wx mixed ?_ | refine AW_block ?_ | refine AW_skip ?_ | refine AW_exit ?_ | refine AW_ret ?_)
                first | refine AWk_op (OpS_of_pure (indexAddr_ok hT rfl rfl rfl rfl (by omega) (hel))) rfl ?_ | refine AWd_op (OpS_of_pure (indexAddr_ok hT rfl rfl rfl rfl (by omega) (hel))) rfl rfl ?_
                repeat (first | refine wk hT rfl rfl ?_ | refine wd hT rfl rfl rfl ?_ | refine wz hT rfl ?_ | refine AWd_nil ?_ | refine AWk_nil ?_ | refine wh hT rfl rfl rfl rfl ?_ | refine wg hT rfl rfl rfl rfl rfl ?_ | refine AW_seq ?_ | refine AW_region ?_ | refine wx mixed ?_ | refine AW_block ?_ | refine AW_skip ?_ | refine AW_exit ?_ | refine AW_ret ?_)
                first | refine AWk_op (callS0 rfl rfl (hcs) rfl rfl rfl) rfl ?_ | refine AWd_op (callS0 rfl rfl (hcs) rfl rfl rfl) rfl rfl ?_ | refine AWk_op (callS0L rfl rfl (hcs) rfl (by repeat (first | exact trivial | exact AV.le.refl _ | exact AV.le.dat | exact AV.le.nils | exact AV.le.nilsf | exact AV.le.any _ | exact ObLe.refl _ | exact ⟨rfl, rfl⟩ | refine AV.le.tup ?_ | refine AV.le.agg ?_ | exact li | exact lb | exact ls | exact lk | exact ld | exact lz | refine ⟨?_, ?_⟩)) rfl rfl) rfl ?_ | refine AWd_op (callS0L rfl rfl (hcs) rfl (by repeat (first | exact trivial | exact AV.le.refl _ | exact AV.le.dat | exact AV.le.nils | exact AV.le.nilsf | exact AV.le.any _ | exact ObLe.refl _ | exact ⟨rfl, rfl⟩ | refine AV.le.tup ?_ | refine AV.le.agg ?_ | exact li | exact lb | exact ls | exact lk | exact ld | exact lz | refine ⟨?_, ?_⟩)) rfl rfl) rfl rfl ?_
                repeat (first | refine wk hT rfl rfl ?_ | refine wd hT rfl rfl rfl ?_ | refine wz hT rfl ?_ | refine AWd_nil ?_ | refine AWk_nil ?_ | refine wh hT rfl rfl rfl rfl ?_ | refine wg hT rfl rfl rfl rfl rfl ?_ | refine AW_seq ?_ | refine AW_region ?_ | refine wx mixed ?_ | refine AW_block ?_ | refine AW_skip ?_ | refine AW_exit ?_ | refine AW_ret ?_)
                first | refine AWk_op (callS0 rfl rfl (hxs) rfl rfl rfl) rfl ?_ | refine AWd_op (callS0 rfl rfl (hxs) rfl rfl rfl) rfl rfl ?_ | refine AWk_op (callS0L rfl rfl (hxs) rfl (by repeat (first | exact trivial | exact AV.le.refl _ | exact AV.le.dat | exact AV.le.nils | exact AV.le.nilsf | exact AV.le.any _ | exact ObLe.refl _ | exact ⟨rfl, rfl⟩ | refine AV.le.tup ?_ | refine AV.le.agg ?_ | exact li | exact lb | exact ls | exact lk | exact ld | exact lz | refine ⟨?_, ?_⟩)) rfl rfl) rfl ?_ | refine AWd_op (callS0L rfl rfl (hxs) rfl (by repeat (first | exact trivial | exact AV.le.refl _ | exact AV.le.dat | exact AV.le.nils | exact AV.le.nilsf | exact AV.le.any _ | exact ObLe.refl _ | exact ⟨rfl, rfl⟩ | refine AV.le.tup ?_ | refine AV.le.agg ?_ | exact li | exact lb | exact ls | exact lk | exact ld | exact lz | refine ⟨?_, ?_⟩)) rfl rfl) rfl rfl ?_
                repeat (first | refine wk hT rfl rfl ?_ | refine wd hT rfl rfl rfl ?_ | refine wz hT rfl ?_ | refine AWd_nil ?_ | refine AWk_nil ?_ | refine wh hT rfl rfl rfl rfl ?_ | refine wg hT rfl rfl rfl rfl rfl ?_ | refine AW_seq ?_ | refine AW_region ?_ | refine wx mixed ?_ | refine AW_block ?_ | refine AW_skip ?_ | refine AW_exit ?_ | refine AW_ret ?_)
                refine AW_condL rfl (fun h8 => ?_) (fun h8 => ?_)
                · have h8' : s = nc ++ [32] ++ nx := by simpa using h8
                  rw [if_pos h8', List.append_assoc, ← List.append_assoc acc] at hacc
                  generalize hs1 : encRes acc = s1 at hal2 henc ⊢
                  repeat (first | refine wk hT rfl rfl ?_ | refine wd hT rfl rfl rfl ?_ | refine wz hT rfl ?_ | refine AWd_nil ?_ | refine AWk_nil ?_ | refine wh hT rfl rfl rfl rfl ?_ | refine wg hT rfl rfl rfl rfl rfl ?_ | refine AW_seq ?_ | refine AW_region ?_ | refine wx mixed ?_ | refine AW_block ?_ | refine AW_skip ?_ | refine AW_exit ?_ | refine AW_ret ?_)
                  refine AWk_op (append_right (i := 2) hT rfl rfl rfl rfl rfl rfl (by show (s1.length + 1) * (16 + 1) ≤ 140737488355328; omega)) rfl ?_
                  repeat (first | refine wk hT rfl rfl ?_ | refine wd hT rfl rfl rfl ?_ | refine wz hT rfl ?_ | refine AWd_nil ?_ | refine AWk_nil ?_ | refine wh hT rfl rfl rfl rfl ?_ | refine wg hT rfl rfl rfl rfl rfl ?_ | refine AW_seq ?_ | refine AW_region ?_ | refine wx mixed ?_ | refine AW_block ?_ | refine AW_skip ?_ | refine AW_exit ?_ | refine AW_ret ?_)
                  refine ⟨(acc ++ [(((c + 1 : Nat) : Int), ((x + 1 : Nat) : Int))], x + 1), [], ⟨by simp only; omega, by simp only; rw [show 4 - (x + 1) = 3 - x by omega]; simpa using hacc⟩, by simp only; omega, ⟨.refl _, .refl _, .refl _, .refl _, .refl _, .refl _, .refl _, .refl _, .int hwx, trivial⟩, ⟨ObLe.refl _, ⟨.refl _, .refl _, .slt henc.symm, trivial⟩, ⟨rfl, ?_⟩, trivial⟩, Env.below_mono hE (by simp), rfl, rfl⟩
                  simp only
                  rw [henc, List.length_append]
                  rfl
                · have h8' : ¬ s = nc ++ [32] ++ nx := by simpa using h8
                  rw [if_neg h8', List.nil_append] at hacc
                  repeat (first | refine wk hT rfl rfl ?_ | refine wd hT rfl rfl rfl ?_ | refine wz hT rfl ?_ | refine AWd_nil ?_ | refine AWk_nil ?_ | refine wh hT rfl rfl rfl rfl ?_ | refine wg hT rfl rfl rfl rfl rfl ?_ | refine AW_seq ?_ | refine AW_region ?_ | refine wx mixed ?_ | refine AW_block ?_ | refine AW_skip ?_ | refine AW_exit ?_ | refine AW_ret ?_)
                  exact ⟨(acc, x + 1), [], ⟨by simp only; omega, by simp only; rw [show 4 - (x + 1) = 3 - x by omega]; exact hacc⟩, by simp only; omega, ⟨.refl _, .refl _, .refl _, .refl _, .refl _, .refl _, .refl _, .refl _, .int hwx, trivial⟩, HLe.refl _, Env.below_mono hE (by simp), rfl, rfl⟩
              · have hx4 : x = 4 := by simp at h7; omega
                subst hx4
                rw [Nat.sub_self, mX, List.nil_append] at hacc
                repeat (first | refine wk hT rfl rfl ?_ | refine wd hT rfl rfl rfl ?_ | refine wz hT rfl ?_ | refine AWd_nil ?_ | refine AWk_nil ?_ | refine wh hT rfl rfl rfl rfl ?_ | refine wg hT rfl rfl rfl rfl rfl ?_ | refine AW_seq ?_ | refine AW_region ?_ | refine wx mixed ?_ | refine AW_block ?_ | refine AW_skip ?_ | refine AW_exit ?_ | refine AW_ret ?_)
                exact ⟨(acc, c + 1), [], ⟨by simp only; omega, by simp only; rw [hR2.symm] at hacc; rw [show 13 - (c + 1) = 12 - c by omega]; exact hacc⟩, by simp only; omega, ⟨.refl _, .refl _, .refl _, .refl _, .refl _, .refl _, .refl _, .int hwc, trivial⟩, HLe.refl _, Env.below_mono hE (by simp), rfl, rfl⟩
            · have hc13 : c = 13 := by simp at h6; omega
              subst hc13
              rw [Nat.sub_self, mC, List.nil_append] at hacc
              repeat (first | refine wk hT rfl rfl ?_ | refine wd hT rfl rfl rfl ?_ | refine wz hT rfl ?_ | refine AWd_nil ?_ | refine AWk_nil ?_ | refine wh hT rfl rfl rfl rfl ?_ | refine wg hT rfl rfl rfl rfl rfl ?_ | refine AW_seq ?_ | refine AW_region ?_ | refine wx mixed ?_ | refine AW_block ?_ | refine AW_skip ?_ | refine AW_exit ?_ | refine AW_ret ?_)
              exact ⟨(acc, n + 1), [], ⟨by simp only; omega, by simp only; rw [hR]; exact hacc⟩, by simp only; omega, ⟨.refl _, .refl _, .refl _, .refl _, .refl _, .refl _, .int hwn, trivial⟩, HLe.refl _, Env.below_mono hE (by simp), rfl, rfl⟩
          · have hnl : n = tl.length := by rw [hlen] at h5; simp at h5; omega
            subst hnl
            rw [List.drop_length, rsR, List.append_nil] at hacc
            subst hacc
            refine AW_subL (l := [(0, .d (.str text)), (2, .ptr 0 0), (4, .d (.sl 1 ss)), (5, .d (.int .i64 ((j + 1 : Nat) : Int))), (6, .d (.int .i64 ((k : Int) - 1))), (7, .ptr 1 0)]) (h' := [.row [.d (.int .i64 0), .d (.int .i64 0), .sl 2 [] .full], .row [.d (.int .i64 ((j + 1 : Nat) : Int)), .d (.int .i64 ((k : Int) - 1)), .d (.sl 2 (encRes acc))], .dead]) ⟨.refl _, .refl _, .refl _, .refl _, .refl _, .refl _, trivial⟩ ⟨ObLe.refl _, ⟨.refl _, .refl _, .dat, trivial⟩, trivial, trivial⟩ ?_
            unfold decAV decCells at hT1
            simp only at hT1
            repeat (first | refine wk hT rfl rfl ?_ | refine wd hT rfl rfl rfl ?_ | refine wz hT rfl ?_ | refine AWd_nil ?_ | refine AWk_nil ?_ | refine wh hT rfl rfl rfl rfl ?_ | refine wg hT rfl rfl rfl rfl rfl ?_ | refine AW_seq ?_ | refine AW_region ?_ | refine wx mixed ?_ | refine AW_block ?_ | refine AW_skip ?_ | refine AW_exit ?_ | refine AW_ret ?_)
            first | refine AWk_op (callS0 rfl rfl (hT1) rfl rfl rfl) rfl ?_ | refine AWd_op (callS0 rfl rfl (hT1) rfl rfl rfl) rfl rfl ?_ | refine AWk_op (callS0L rfl rfl (hT1) rfl (by repeat (first | exact trivial | exact AV.le.refl _ | exact AV.le.dat | exact AV.le.nils | exact AV.le.nilsf | exact AV.le.any _ | exact ObLe.refl _ | exact ⟨rfl, rfl⟩ | refine AV.le.tup ?_ | refine AV.le.agg ?_ | exact li | exact lb | exact ls | exact lk | exact ld | exact lz | refine ⟨?_, ?_⟩)) rfl rfl) rfl ?_ | refine AWd_op (callS0L rfl rfl (hT1) rfl (by repeat (first | exact trivial | exact AV.le.refl _ | exact AV.le.dat | exact AV.le.nils | exact AV.le.nilsf | exact AV.le.any _ | exact ObLe.refl _ | exact ⟨rfl, rfl⟩ | refine AV.le.tup ?_ | refine AV.le.agg ?_ | exact li | exact lb | exact ls | exact lk | exact ld | exact lz | refine ⟨?_, ?_⟩)) rfl rfl) rfl rfl ?_
            repeat (first | refine wk hT rfl rfl ?_ | refine wd hT rfl rfl rfl ?_ | refine wz hT rfl ?_ | refine AWd_nil ?_ | refine AWk_nil ?_ | refine wh hT rfl rfl rfl rfl ?_ | refine wg hT rfl rfl rfl rfl rfl ?_ | refine AW_seq ?_ | refine AW_region ?_ | refine wx mixed ?_ | refine AW_block ?_ | refine AW_skip ?_ | refine AW_exit ?_ | refine AW_ret ?_)
            refine AW_condL rfl (fun h9 => ?_) (fun h9 => ?_)
            · have h9' : tx = text := by simpa using h9
              rw [if_pos h9', Option.getD_some] at hgi2
              subst hgi2
              repeat (first | refine wk hT rfl rfl ?_ | refine wd hT rfl rfl rfl ?_ | refine wz hT rfl ?_ | refine AWd_nil ?_ | refine AWk_nil ?_ | refine wh hT rfl rfl rfl rfl ?_ | refine wg hT rfl rfl rfl rfl rfl ?_ | refine AW_seq ?_ | refine AW_region ?_ | refine wx mixed ?_ | refine AW_block ?_ | refine AW_skip ?_ | refine AW_exit ?_ | refine AW_ret ?_)
              exact rq (r := .tup [decAV ⟨((j + 1 : Nat) : Int), (k : Int) - 1, acc⟩, .d (.int .i64 0)]) ⟨rfl, rfl⟩ rfl (AV.le.tup ⟨AV.le.agg ⟨.refl _, .refl _, .refl _, trivial⟩, .refl _, trivial⟩)
            · have h9' : ¬ tx = text := by simpa using h9
              rw [if_neg h9', Option.getD_none] at hgi2
              repeat (first | refine wk hT rfl rfl ?_ | refine wd hT rfl rfl rfl ?_ | refine wz hT rfl ?_ | refine AWd_nil ?_ | refine AWk_nil ?_ | refine wh hT rfl rfl rfl rfl ?_ | refine wg hT rfl rfl rfl rfl rfl ?_ | refine AW_seq ?_ | refine AW_region ?_ | refine wx mixed ?_ | refine AW_block ?_ | refine AW_skip ?_ | refine AW_exit ?_ | refine AW_ret ?_)
              exact ⟨k + 1, [_, _], ⟨by omega, by rw [show 33 - (k + 1) = q by omega]; exact hgi2⟩, by omega, ⟨.refl _, .refl _, .refl _, .refl _, .int hwk, trivial⟩, HLe.refl _, Env.below_mono hE (by simp), rfl, rfl⟩
      · have hk33 : k = 33 := by simp at h3; omega
        subst hk33
        rw [Nat.sub_self, innerF] at hgi
        repeat (first | refine wk hT rfl rfl ?_ | refine wd hT rfl rfl rfl ?_ | refine wz hT rfl ?_ | refine AWd_nil ?_ | refine AWk_nil ?_ | refine wh hT rfl rfl rfl rfl ?_ | refine wg hT rfl rfl rfl rfl rfl ?_ | refine AW_seq ?_ | refine AW_region ?_ | refine wx mixed ?_ | refine AW_block ?_ | refine AW_skip ?_ | refine AW_exit ?_ | refine AW_ret ?_)
        exact ⟨j + 1, [], ⟨by omega, by rw [show 3 - (j + 1) = m by omega]; exact hgi⟩, by omega, ⟨.refl _, .refl _, .refl _, .int hwj, trivial⟩, HLe.refl _, Env.below_mono hE (by simp), rfl, rfl⟩
    · have hj3 : j = 3 := by simp at h2; omega
      subst hj3
      rw [Nat.sub_self, outerF] at hgo
      subst hgo
      repeat (first | refine wk hT rfl rfl ?_ | refine wd hT rfl rfl rfl ?_ | refine wz hT rfl ?_ | refine AWd_nil ?_ | refine AWk_nil ?_ | refine wh hT rfl rfl rfl rfl ?_ | refine wg hT rfl rfl rfl rfl rfl ?_ | refine AW_seq ?_ | refine AW_region ?_ | refine wx mixed ?_ | refine AW_block ?_ | refine AW_skip ?_ | refine AW_exit ?_ | refine AW_ret ?_)
      exact rq (r := .tup [decAV ⟨0, 0, []⟩, .d (.int .i64 71)]) ⟨rfl, rfl⟩ rfl (AV.le.tup ⟨AV.le.agg ⟨.refl _, .refl _, AV.le.dat, trivial⟩, .refl _, trivial⟩)
end Tdoc
/- Both read the same: plain. -/
set_option linter.unusedVariables false
set_option linter.unusedSimpArgs false
namespace Tdoc
open Go Go.Proofs

/-! lines and cuts -/
theorem lnR_one : ∀ x : List UInt8, (x.contains 10) = false → lnR x = [x]
  | [], _ => rfl
  | b :: x, h => by
    simp at h
    rw [lnR, if_neg (fun e => h.1 e.symm), lnR_one x (by simpa using h.2)]; rfl
theorem lnR_app : ∀ (x r : List UInt8), (x.contains 10) = false → lnR (x ++ 10 :: r) = x :: lnR r
  | [], r, _ => by rw [List.nil_append, lnR, if_pos rfl]
  | b :: x, r, h => by
    simp at h
    rw [List.cons_append, lnR, if_neg (fun e => h.1 e.symm), lnR_app x r (by simpa using h.2)]; rfl
theorem lnR_join : ∀ (x : List UInt8) (l : List (List UInt8)), (x.contains 10) = false → (∀ y, y ∈ l → (y.contains 10) = false) → lnR (x ++ Lib.joinTail [10] l) = x :: l
  | x, [], h, _ => by simp [Lib.joinTail]; exact lnR_one x h
  | x, y :: l, h, hl => by
    have := lnR_join y l (hl y List.mem_cons_self) (fun z hz => hl z (List.mem_cons_of_mem _ hz))
    have he : x ++ Lib.joinTail [10] (y :: l) = x ++ 10 :: (y ++ Lib.joinTail [10] l) := by simp [Lib.joinTail]
    rw [he, lnR_app x _ h, this]
theorem indexByte_app : ∀ (x r : List UInt8), (x.contains 32) = false → Lib.indexByte (x ++ 32 :: r) 32 = x.length
  | [], r, _ => by rw [List.nil_append, Lib.indexByte, if_pos (by rfl)]; rfl
  | b :: x, r, h => by
    simp at h
    have := indexByte_app x r (by simpa using h.2)
    rw [List.cons_append, Lib.indexByte, if_neg (by simp; exact fun e => h.1 e.symm), this, if_neg (by simp)]; simp
theorem cut_app (x r : List UInt8) (h : (x.contains 32) = false) : Lib.cut (x ++ [32] ++ r) [32] = (x, r, true) := by
  have he : Lib.index (x ++ [32] ++ r) [32] = x.length := by
    rw [Lib.index_one, List.append_assoc]; exact indexByte_app x r h
  unfold Lib.cut
  rw [he, if_pos (by omega), Int.toNat_natCast]
  simp

/-! what is read of what was written: each case -/
def itS (k : Nat) : List UInt8 := if k = 0 then [45, 49] else if k - 1 < 10 then [UInt8.ofNat (48 + (k - 1))] else [UInt8.ofNat (48 + (k - 1) / 10), UInt8.ofNat (48 + (k - 1) % 10)]
theorem itoa_itS (k : Nat) (h : k < 33) : Lib.itoa ((k : Int) - 1) = itS k := by
  unfold itS Lib.itoa
  by_cases h0 : k = 0
  · subst h0
    rw [if_pos (by omega), if_pos rfl, show ((0 : Nat) : Int) - 1 = -1 by rfl, show (-1 : Int).natAbs = 1 by rfl, decDigits_small (by omega)]; rfl
  · rw [if_neg (by omega), if_neg h0, show ((k : Int) - 1).toNat = k - 1 by omega]
    by_cases h1 : k - 1 < 10
    · rw [if_pos h1, decDigits_small h1]
    · rw [if_neg h1, decDigits_big h1, decDigits_small (by omega), decDigits_small (by omega)]; rfl
def itOk (k : Nat) : Bool := decide (Lib.atoi (itS k) = some ((k : Int) - 1)) && !(itS k).contains 10 && decide ((itS k).length ≤ 18)
theorem it_all : (List.range 33).all itOk = true := by decide +kernel
theorem it_ok (k : Nat) (h : k < 33) : atoiR (Lib.itoa ((k : Int) - 1)) = ((k : Int) - 1, true) ∧ ((Lib.itoa ((k : Int) - 1)).contains 10) = false := by
  rw [itoa_itS k h]
  have h1 := List.all_eq_true.1 it_all k (List.mem_range.2 h)
  unfold itOk at h1
  simp only [Bool.and_eq_true, decide_eq_true_eq, Bool.not_eq_true'] at h1
  refine ⟨?_, h1.1.2⟩
  unfold atoiR
  rw [Lib.atoiAll_short _ h1.2, h1.1.1]
  rfl

def vOk (k : Nat) : Bool := decide (sIdx vds (nameOf vds ((k + 1 : Nat) : Int)) = (k : Int)) && !(nameOf vds ((k + 1 : Nat) : Int)).contains 10 && !(nameOf vds ((k + 1 : Nat) : Int)).contains 32
theorem v_all : (List.range 3).all vOk = true := by decide +kernel
def rOk (c x : Nat) : Bool := decide (sIdx chk (nameOf chk ((c + 1 : Nat) : Int)) = (c : Int)) && decide (sIdx vls (nameOf vls ((x + 1 : Nat) : Int)) = (x : Int)) && !(nameOf chk ((c + 1 : Nat) : Int)).contains 10 && !(nameOf chk ((c + 1 : Nat) : Int)).contains 32 && !(nameOf vls ((x + 1 : Nat) : Int)).contains 10
  && decide (mC (lineF (((c + 1 : Nat) : Int), ((x + 1 : Nat) : Int))) 13 0 = [(((c + 1 : Nat) : Int), ((x + 1 : Nat) : Int))])
theorem r_all : ((List.range 13).all fun c => (List.range 4).all (rOk c)) = true := by decide +kernel

theorem proper_mem : ∀ (l : List Res) (p : Int), properF p l = true → ∀ r, r ∈ l → (1 ≤ r.1 ∧ r.1 ≤ 13) ∧ (1 ≤ r.2 ∧ r.2 ≤ 4)
  | [], _, _, _, h => by cases h
  | q :: l, p, hp, r, h => by
    rw [proper_step (i := 0)] at hp
    split at hp
    · cases hp
    · rename_i hc
      rcases List.mem_cons.1 h with rfl | h
      · omega
      · exact proper_mem l _ hp r h

theorem line_ok {r : Res} (h : (1 ≤ r.1 ∧ r.1 ≤ 13) ∧ (1 ≤ r.2 ∧ r.2 ≤ 4)) : ((lineF r).contains 10) = false ∧ rsOf (lineF r) = r ∧ mC (lineF r) 13 0 = [r] := by
  obtain ⟨a, b⟩ := r
  simp only at h
  obtain ⟨c, hc⟩ : ∃ c : Nat, a = ((c + 1 : Nat) : Int) := ⟨(a - 1).toNat, by omega⟩
  obtain ⟨x, hx⟩ : ∃ x : Nat, b = ((x + 1 : Nat) : Int) := ⟨(b - 1).toNat, by omega⟩
  subst hc; subst hx
  have h1 := List.all_eq_true.1 (List.all_eq_true.1 r_all c (List.mem_range.2 (by omega))) x (List.mem_range.2 (by omega))
  unfold rOk at h1
  simp only [Bool.and_eq_true, decide_eq_true_eq, Bool.not_eq_true'] at h1
  obtain ⟨⟨⟨⟨⟨e1, e2⟩, e3⟩, e4⟩, e5⟩, e6⟩ := h1
  refine ⟨?_, ?_, e6⟩
  · unfold lineF
    simp only
    generalize nameOf chk ((c + 1 : Nat) : Int) = n1 at *
    generalize nameOf vls ((x + 1 : Nat) : Int) = n2 at *
    simp at e3 e5 ⊢
    exact ⟨e3, e5⟩
  · unfold rsOf
    rw [show lineF (((c + 1 : Nat) : Int), ((x + 1 : Nat) : Int)) = nameOf chk ((c + 1 : Nat) : Int) ++ [32] ++ nameOf vls ((x + 1 : Nat) : Int) from rfl, cut_app _ _ e4]
    simp only
    rw [e1, e2]
    rfl

theorem rsR_lines : ∀ l : List Res, (∀ r, r ∈ l → (1 ≤ r.1 ∧ r.1 ≤ 13) ∧ (1 ≤ r.2 ∧ r.2 ≤ 4)) → rsR (l.map lineF) = l
  | [], _ => rfl
  | r :: l, h => by
    rw [List.map_cons, rsR, (line_ok (h r List.mem_cons_self)).2.2, rsR_lines l (fun q hq => h q (List.mem_cons_of_mem _ hq))]; rfl

theorem textF_ok {d : Decn} (h : textF d ≠ []) : textOk d = true := by
  unfold textF at h
  split at h
  · assumption
  · exact absurd rfl h

/-- What is read of a text that was written. -/
theorem written {d : Decn} (h : textOk d = true) : lnR (textF d) = firstF d :: d.rs.map lineF ∧ decOf (firstF d) (d.rs.map lineF) = d ∧ (atoiR (Lib.cut (firstF d) [32]).2.1).2 = true ∧ d.rs.length ≤ 13 ∧ textF d ≠ [] ∧ rsR (d.rs.map lineF) = d.rs ∧ (1 ≤ d.v ∧ d.v ≤ 3 ∧ -1 ≤ d.rule ∧ d.rule < 32) := by
  have h' := h
  unfold textOk at h'
  simp only [Bool.and_eq_true, decide_eq_true_eq] at h'
  obtain ⟨hr, hp⟩ := h'
  have hm := proper_mem d.rs 0 hp
  have hpl := proper_len d.rs 0 (by omega) hp
  obtain ⟨v, rule, rs⟩ := d
  simp only at hr hm hpl ⊢
  obtain ⟨k, hk⟩ : ∃ k : Nat, rule = (k : Int) - 1 := ⟨(rule + 1).toNat, by omega⟩
  obtain ⟨j, hj⟩ : ∃ j : Nat, v = ((j + 1 : Nat) : Int) := ⟨(v - 1).toNat, by omega⟩
  subst hk; subst hj
  have hit := it_ok k (by omega)
  have hv := List.all_eq_true.1 v_all j (List.mem_range.2 (by omega))
  unfold vOk at hv
  simp only [Bool.and_eq_true, decide_eq_true_eq, Bool.not_eq_true'] at hv
  obtain ⟨⟨e1, e2⟩, e3⟩ := hv
  have htx : textF ⟨((j + 1 : Nat) : Int), (k : Int) - 1, rs⟩ = firstF ⟨((j + 1 : Nat) : Int), (k : Int) - 1, rs⟩ ++ Lib.joinTail [10] (rs.map lineF) := by
    unfold textF
    rw [if_pos h, Lib.join_cons]
  have hfc : ((firstF ⟨((j + 1 : Nat) : Int), (k : Int) - 1, rs⟩).contains 10) = false := by
    unfold firstF
    simp only
    have := hit.2
    generalize nameOf vds ((j + 1 : Nat) : Int) = n1 at *
    generalize Lib.itoa ((k : Int) - 1) = n2 at *
    simp at e2 this ⊢
    exact ⟨e2, this⟩
  have hcut : Lib.cut (firstF ⟨((j + 1 : Nat) : Int), (k : Int) - 1, rs⟩) [32] = (nameOf vds ((j + 1 : Nat) : Int), Lib.itoa ((k : Int) - 1), true) := cut_app _ _ e3
  refine ⟨?_, ?_, ?_, ?_, ?_, ?_, hr⟩
  · rw [htx]
    exact lnR_join _ _ hfc (fun y hy => by
      obtain ⟨r, hr, rfl⟩ := List.mem_map.1 hy
      exact (line_ok (hm r hr)).1)
  · unfold decOf
    rw [hcut]
    simp only
    rw [e1, hit.1, List.map_map]
    congr 1
    exact (List.map_congr_left fun r hr => (line_ok (hm r hr)).2.1).trans (List.map_id _)
  · rw [hcut]
    simp only
    rw [hit.1]
  · simp at hpl; omega
  · rw [htx]; unfold firstF; simp
  · exact rsR_lines rs hm

theorem innerF_or {g : Nat → Option (Decn × Int)} {X : Decn × Int} (h : ∀ k x, g k = some x → x = X) : ∀ m k z, innerF g m k z = X ∨ (innerF g m k z = z ∧ ∀ i, k ≤ i → i < k + m → g i = none)
  | 0, k, z => .inr ⟨rfl, fun i h1 h2 => by omega⟩
  | m + 1, k, z => by
    rw [innerF]
    cases hg : g k with
    | some x => exact .inl (h k x hg)
    | none =>
      rw [Option.getD_none]
      rcases innerF_or h m (k + 1) z with h1 | ⟨h1, h2⟩
      · exact .inl h1
      · refine .inr ⟨h1, fun i h3 h4 => ?_⟩
        by_cases he : i = k
        · rw [he]; exact hg
        · exact h2 i (by omega) (by omega)
theorem outerF_or {g : Nat → Nat → Option (Decn × Int)} {X : Decn × Int} (h : ∀ j k x, g j k = some x → x = X) : ∀ m j, outerF g m j = X ∨ (outerF g m j = (⟨0, 0, []⟩, 71) ∧ ∀ i k, j ≤ i → i < j + m → k < 33 → g i k = none)
  | 0, j => .inr ⟨rfl, fun i k h1 h2 => by omega⟩
  | m + 1, j => by
    rw [outerF]
    rcases innerF_or (h j) 33 0 (outerF g m (j + 1)) with h1 | ⟨h1, h2⟩
    · exact .inl h1
    · rw [h1]
      rcases outerF_or h m (j + 1) with h3 | ⟨h3, h4⟩
      · exact .inl h3
      · refine .inr ⟨h3, fun i k h5 h6 h7 => ?_⟩
        by_cases he : i = j
        · rw [he]; exact h2 k (by omega) (by omega)
        · exact h4 i k (by omega) (by omega) h7

theorem hit_some {text a : List UInt8} {tl : List (List UInt8)} {j k : Nat} {x : Decn × Int} (h : hitR text a tl j k = some x) : x.2 = 0 ∧ textF x.1 = text ∧ a = firstF ⟨((j + 1 : Nat) : Int), (k : Int) - 1, []⟩ := by
  unfold hitR at h
  split at h
  · rename_i hc
    cases h
    exact ⟨rfl, hc.2, hc.1⟩
  · cases h

/-- What a text is read as: the decision of which it is the text. -/
theorem read_of {d : Decn} (h : textOk d = true) : readF (textF d) = (d, 0) ∧ readR (textF d) = (d, 0) := by
  obtain ⟨w1, w2, w3, w4, w5, w6, w7⟩ := written h
  constructor
  · unfold readF
    rw [w1]
    simp only
    unfold readL
    rw [if_neg (by rw [w3, List.length_map]; simp; omega), w2, if_neg (by simp [w5])]
  · unfold readR
    rw [w1]
    simp only
    unfold readM
    rw [if_neg (by rw [List.length_map]; omega)]
    have hX : ∀ j k x, hitR (textF d) (firstF d) (d.rs.map lineF) j k = some x → x = (d, 0) := fun j k x hx => by
      obtain ⟨x1, x2⟩ := x
      obtain ⟨e1, e2, -⟩ := hit_some hx
      simp only at e1 e2
      subst e1
      have hok : textOk x1 = true := textF_ok (by rw [e2]; exact w5)
      obtain ⟨u1, u2, -⟩ := written hok
      rw [e2, w1] at u1
      have := List.cons.inj u1
      rw [← this.1, ← this.2, w2] at u2
      rw [u2]
    rcases outerF_or hX 3 0 with h1 | ⟨-, h2⟩
    · exact h1
    · have := h2 (d.v - 1).toNat (d.rule + 1).toNat (by omega) (by omega) (by omega)
      unfold hitR at this
      rw [if_pos] at this
      · cases this
      · rw [w6, show (((d.v - 1).toNat + 1 : Nat) : Int) = d.v by omega, show (((d.rule + 1).toNat : Nat) : Int) - 1 = d.rule by omega]
        exact ⟨rfl, rfl⟩

theorem read_none {text : List UInt8} (h : ∀ d, textOk d = true → textF d ≠ text) : readF text = (⟨0, 0, []⟩, 71) ∧ readR text = (⟨0, 0, []⟩, 71) := by
  cases hl : lnR text with
  | nil => exact absurd hl (lnR_ne text)
  | cons a tl =>
    constructor
    · unfold readF
      rw [hl]
      simp only
      unfold readL
      split
      · rfl
      · split
        · rfl
        · rename_i h1 h2
          simp at h2
          exact absurd h2.2 (h _ (textF_ok h2.1))
    · unfold readR
      rw [hl]
      simp only
      unfold readM
      split
      · rfl
      · have hX : ∀ j k x, hitR text a tl j k = some x → x = (⟨0, 0, []⟩, 71) := fun j k x hx => by
          obtain ⟨e1, e2, e3⟩ := hit_some hx
          have hne : text ≠ [] := fun he => by
            rw [he] at hl
            have := (List.cons.inj hl).1
            rw [← this] at e3
            unfold firstF at e3
            simp at e3
          exact absurd e2 (h _ (textF_ok (by rw [e2]; exact hne)))
        rcases outerF_or hX 3 0 with h1 | ⟨h1, -⟩ <;> exact h1

theorem reads_agree (text : List UInt8) : readF text = readR text := by
  by_cases h : ∃ d, textOk d = true ∧ textF d = text
  · obtain ⟨d, h1, rfl⟩ := h
    rw [(read_of h1).1, (read_of h1).2]
  · have := read_none (text := text) (fun d h1 h2 => h ⟨d, h1, h2⟩)
    rw [this.1, this.2]
end Tdoc
/- The chapter's example: always true. -/
set_option linter.unusedVariables false
set_option linter.unusedSimpArgs false
namespace Tdoc
open Go Go.Proofs

/-- A field's place in an element of an owned list. -/
theorem fldBuf_ok {P : Program} {E : Env} {T : Tr} {o : Oper} {ρ : Operand → AV} {h : List AObj} (hT : TOk P T) {t f i n off sz fo s : Nat} {g : Bool} {x : Operand} {cells : List AV} (ho : o.op = .fieldAddr t x f) (hf : fieldT T t f = some (fo, s, g)) (hs : Nat.beq s 0 = false) (hx : ρ x = .bp i n off)
    (hi : h[i]? = some (.buf sz n cells)) (hn : 0 < n * sz) : OpS P E o ρ h (.bp i n (off + fo)) h :=
  OpS_of_run fun G e w hw hr => by
    have hx' : RepA G (ρ x) (e x) := hr x (by simp [ho, Op.operands])
    rw [hx] at hx'
    obtain ⟨fields, fd, h1, h2, h3, ⟨i', h4, h5⟩, h6⟩ := fieldT_ok hT hf
    have hs' : ¬ s = 0 := fun hh => by subst hh; simp at hs
    have hrun : ∀ a : Addr, (Instr.fieldAt t (.pointer (some a)) f).run P w = .ok (.pointer (some (a.add fo))) w := by
      intro a
      simp [Instr.fieldAt, run_underlying h1, h2, Instr.sureAddr, fieldPlace, Go.sizeOf, typeInfo, h4, h5, hs', h3]
    obtain ⟨p, cap, hp, hl⟩ := hx'.bp_inv
    obtain ⟨a', cap', hl', _, hb1, hb2, hb3, hb4⟩ := hw.obj i _ hi
    rw [hl] at hl'; cases hl'
    have hcap : 0 < cap := by
      rcases Nat.eq_zero_or_pos cap with h0 | h0
      · have : n = 0 := by omega
        subst this; simp at hn
      · exact h0
    obtain ⟨q1, q2, q3, q4⟩ := hb4 p rfl hcap
    refine ⟨.pointer (some (p.add (off + fo))), w, G, ?_, .refl G, hw, .bp p cap _ hl⟩
    unfold execOp
    simp only [ho, Sem.run_bind]
    rw [hp, hrun, add_add p q1]
    rfl

def awD : List UInt8 := [114, 101, 102, 117, 115, 101, 32, 105, 102, 32, 104, 97, 115, 104, 101, 115, 32, 105, 115, 32, 98, 97, 100, 59, 32, 97, 99, 99, 101, 112, 116, 59]
def awQ : List Rule := [.mk 3 false (.mk 1 6 2 []), .mk 1 true (.mk 0 0 0 [])]
def awL : List Res := [(1, 1), (2, 1), (3, 1), (4, 1), (5, 1), (6, 2), (7, 1), (8, 1), (9, 1), (10, 1), (11, 1), (12, 1), (13, 1)]
def awE : Decn := ⟨3, 0, [(6, 2)]⟩
theorem awD_parse : parseR awD = (awQ, 0, 0) := by kernel_rfl
theorem awD_decide : decideF awQ awL = (awE, 0) := by kernel_rfl
theorem awD_expl : explF awQ awE = true := by kernel_rfl
theorem awD_ok : textOk awE = true := by kernel_rfl
theorem awD_small : ∀ r, r ∈ awQ → smallC (condR r) := by
  intro r hr
  simp [awQ] at hr
  rcases hr with rfl | rfl <;> simp [condR, smallC, smallCs]

theorem textF_len (d : Decn) (h : textOk d = true) : (textF d).length ≤ 1000 := by
  have h' := h
  unfold textOk at h'
  simp only [Bool.and_eq_true, decide_eq_true_eq] at h'
  have hpl := proper_len d.rs 0 (by omega) h'.2
  have h1 := vds_len d.v
  have h2 := itoa_len d.rule (by omega)
  have h3 := joinTail_len d.rs
  unfold textF firstF
  rw [if_pos h, Lib.join_cons]
  simp at hpl ⊢
  omega

set_option maxHeartbeats 8000000 in
set_option maxRecDepth 100000 in
theorem awake38_spec : Spec Tryz.prog 7 [] [] (fun r h' => r = .d (.bool true) ∧ h' = []) := by
  have p1 := ParseR_spec awD (by decide)
  rw [awD_parse] at p1
  have hres := Spec.args (args := [.nils]) (args' := [.d (.sl 1 (numsD .i64 []))]) ⟨AV.le.nils, trivial⟩ (ResultsO_spec [] (by simp))
  have hd := Decide_spec awQ awL (by decide) (by decide) awD_small
  rw [awD_decide] at hd
  have hx := Explains_spec awQ awE (by decide) (by decide) awD_small
  rw [awD_expl] at hx
  have ht := Text_spec awE (by decide) (by decide) (by decide) (by decide)
  have hr := Read_spec (textF awE) (textF_len awE awD_ok)
  rw [(read_of awD_ok).1] at hr
  have hs := Same_spec awE awE (by decide) (by decide)
  rw [show (decide (awE.v = awE.v) && decide (awE.rule = awE.rule) && decide (awE.rs = awE.rs)) = true by simp] at hs
  generalize textF awE = tx at ht hr
  unfold awE decAV decCells at *
  simp only at *
  unfold polAV at *
  generalize encRs awQ = rq0 at *
  refine Spec_of_body hT Tryz.func7 rfl rfl rfl rfl ?_
  intro E hE
  refine AW_room ?_
  repeat (first | refine wk hT rfl rfl ?_ | refine wd hT rfl rfl rfl ?_ | refine wz hT rfl ?_ | refine AWd_nil ?_ | refine AWk_nil ?_ | refine wh hT rfl rfl rfl rfl ?_ | refine wg hT rfl rfl rfl rfl rfl ?_ | refine AW_seq ?_ | refine AW_region ?_ | refine AW_block ?_ | refine AW_skip ?_ | refine AW_exit ?_ | refine AW_ret ?_)
  first | refine AWk_op (callS0 rfl rfl (p1) rfl rfl rfl) rfl ?_ | refine AWd_op (callS0 rfl rfl (p1) rfl rfl rfl) rfl rfl ?_ | refine AWk_op (callS0L rfl rfl (p1) rfl (by repeat (first | exact trivial | exact AV.le.refl _ | exact AV.le.dat | exact AV.le.nils | exact AV.le.nilsf | exact AV.le.any _ | exact ObLe.refl _ | exact ⟨rfl, rfl⟩ | refine AV.le.tup ?_ | refine AV.le.agg ?_ | exact li | exact lb | exact ls | exact lk | exact ld | exact lz | refine ⟨?_, ?_⟩)) rfl rfl) rfl ?_ | refine AWd_op (callS0L rfl rfl (p1) rfl (by repeat (first | exact trivial | exact AV.le.refl _ | exact AV.le.dat | exact AV.le.nils | exact AV.le.nilsf | exact AV.le.any _ | exact ObLe.refl _ | exact ⟨rfl, rfl⟩ | refine AV.le.tup ?_ | refine AV.le.agg ?_ | exact li | exact lb | exact ls | exact lk | exact ld | exact lz | refine ⟨?_, ?_⟩)) rfl rfl) rfl rfl ?_
  repeat (first | refine wk hT rfl rfl ?_ | refine wd hT rfl rfl rfl ?_ | refine wz hT rfl ?_ | refine AWd_nil ?_ | refine AWk_nil ?_ | refine wh hT rfl rfl rfl rfl ?_ | refine wg hT rfl rfl rfl rfl rfl ?_ | refine AW_seq ?_ | refine AW_region ?_ | refine AW_block ?_ | refine AW_skip ?_ | refine AW_exit ?_ | refine AW_ret ?_)
  refine AWk_op (callS rfl rfl hres [0] (by decide) rfl rfl rfl rfl rfl rfl) rfl ?_
  repeat (first | refine wk hT rfl rfl ?_ | refine wd hT rfl rfl rfl ?_ | refine wz hT rfl ?_ | refine AWd_nil ?_ | refine AWk_nil ?_ | refine wh hT rfl rfl rfl rfl ?_ | refine wg hT rfl rfl rfl rfl rfl ?_ | refine AW_seq ?_ | refine AW_region ?_ | refine AW_block ?_ | refine AW_skip ?_ | refine AW_exit ?_ | refine AW_ret ?_)
  refine AWk_op (OpS_of_pure (bufAddr_ok (sz := 2) hT rfl rfl rfl rfl (by decide))) rfl ?_
  repeat (first | refine wk hT rfl rfl ?_ | refine wd hT rfl rfl rfl ?_ | refine wz hT rfl ?_ | refine AWd_nil ?_ | refine AWk_nil ?_ | refine wh hT rfl rfl rfl rfl ?_ | refine wg hT rfl rfl rfl rfl rfl ?_ | refine AW_seq ?_ | refine AW_region ?_ | refine AW_block ?_ | refine AW_skip ?_ | refine AW_exit ?_ | refine AW_ret ?_)
  refine AWk_op (fldBuf_ok hT rfl rfl rfl rfl rfl (by decide)) rfl ?_
  repeat (first | refine wk hT rfl rfl ?_ | refine wd hT rfl rfl rfl ?_ | refine wz hT rfl ?_ | refine AWd_nil ?_ | refine AWk_nil ?_ | refine wh hT rfl rfl rfl rfl ?_ | refine wg hT rfl rfl rfl rfl rfl ?_ | refine AW_seq ?_ | refine AW_region ?_ | refine AW_block ?_ | refine AW_skip ?_ | refine AW_exit ?_ | refine AW_ret ?_)
  have hcell : (renL (fsf [0]) (rowR (resM [] 13))).set 11 (.d (.int .i64 2)) = rowR awL ++ [] := by kernel_rfl
  refine AWk_op0 (bufStoreE hT rfl rfl rfl rfl rfl rfl rfl (by decide) rfl) rfl ?_
  refine AWk_nil ?_
  refine AW_subL (l := [(1, .ptr 1 0), (4, .bm 0 13)]) (h' := [.buf 2 13 (rowR awL ++ []), .row [.d (.sl 6 rq0)]]) ⟨.refl _, .refl _, trivial⟩ ⟨⟨rfl, rfl, AllLe.of_eq hcell⟩, ObLe.refl _, trivial⟩ ?_
  refine AW_freezeBuf 4 0 2 (encRes awL) rfl rfl rfl (RowDat_row awL []) rfl ?_
  refine AW_subL (l := [(1, .ptr 1 0), (4, .d (.sl 2 (encRes awL)))]) (h' := [.dead, .row [.d (.sl 6 rq0)]]) ⟨.refl _, AV.le.dat, trivial⟩ ⟨trivial, ObLe.refl _, trivial⟩ ?_
  generalize encRes awL = la at hd ⊢
  have hlr : (encRes [((6 : Int), (2 : Int))]).length = 1 := rfl
  generalize encRes [((6 : Int), (2 : Int))] = lr at *
  repeat (first | refine wk hT rfl rfl ?_ | refine wd hT rfl rfl rfl ?_ | refine wz hT rfl ?_ | refine AWd_nil ?_ | refine AWk_nil ?_ | refine wh hT rfl rfl rfl rfl ?_ | refine wg hT rfl rfl rfl rfl rfl ?_ | refine AW_seq ?_ | refine AW_region ?_ | refine AW_block ?_ | refine AW_skip ?_ | refine AW_exit ?_ | refine AW_ret ?_)
  first | refine AWk_op (callS0 rfl rfl (hd) rfl rfl rfl) rfl ?_ | refine AWd_op (callS0 rfl rfl (hd) rfl rfl rfl) rfl rfl ?_ | refine AWk_op (callS0L rfl rfl (hd) rfl (by repeat (first | exact trivial | exact AV.le.refl _ | exact AV.le.dat | exact AV.le.nils | exact AV.le.nilsf | exact AV.le.any _ | exact ObLe.refl _ | exact ⟨rfl, rfl⟩ | refine AV.le.tup ?_ | refine AV.le.agg ?_ | exact li | exact lb | exact ls | exact lk | exact ld | exact lz | refine ⟨?_, ?_⟩)) rfl rfl) rfl ?_ | refine AWd_op (callS0L rfl rfl (hd) rfl (by repeat (first | exact trivial | exact AV.le.refl _ | exact AV.le.dat | exact AV.le.nils | exact AV.le.nilsf | exact AV.le.any _ | exact ObLe.refl _ | exact ⟨rfl, rfl⟩ | refine AV.le.tup ?_ | refine AV.le.agg ?_ | exact li | exact lb | exact ls | exact lk | exact ld | exact lz | refine ⟨?_, ?_⟩)) rfl rfl) rfl rfl ?_
  repeat (first | refine wk hT rfl rfl ?_ | refine wd hT rfl rfl rfl ?_ | refine wz hT rfl ?_ | refine AWd_nil ?_ | refine AWk_nil ?_ | refine wh hT rfl rfl rfl rfl ?_ | refine wg hT rfl rfl rfl rfl rfl ?_ | refine AW_seq ?_ | refine AW_region ?_ | refine AW_block ?_ | refine AW_skip ?_ | refine AW_exit ?_ | refine AW_ret ?_)
  first | refine AWk_op (callS0 rfl rfl (ht) rfl rfl rfl) rfl ?_ | refine AWd_op (callS0 rfl rfl (ht) rfl rfl rfl) rfl rfl ?_ | refine AWk_op (callS0L rfl rfl (ht) rfl (by repeat (first | exact trivial | exact AV.le.refl _ | exact AV.le.dat | exact AV.le.nils | exact AV.le.nilsf | exact AV.le.any _ | exact ObLe.refl _ | exact ⟨rfl, rfl⟩ | refine AV.le.tup ?_ | refine AV.le.agg ?_ | exact li | exact lb | exact ls | exact lk | exact ld | exact lz | refine ⟨?_, ?_⟩)) rfl rfl) rfl ?_ | refine AWd_op (callS0L rfl rfl (ht) rfl (by repeat (first | exact trivial | exact AV.le.refl _ | exact AV.le.dat | exact AV.le.nils | exact AV.le.nilsf | exact AV.le.any _ | exact ObLe.refl _ | exact ⟨rfl, rfl⟩ | refine AV.le.tup ?_ | refine AV.le.agg ?_ | exact li | exact lb | exact ls | exact lk | exact ld | exact lz | refine ⟨?_, ?_⟩)) rfl rfl) rfl rfl ?_
  repeat (first | refine wk hT rfl rfl ?_ | refine wd hT rfl rfl rfl ?_ | refine wz hT rfl ?_ | refine AWd_nil ?_ | refine AWk_nil ?_ | refine wh hT rfl rfl rfl rfl ?_ | refine wg hT rfl rfl rfl rfl rfl ?_ | refine AW_seq ?_ | refine AW_region ?_ | refine AW_block ?_ | refine AW_skip ?_ | refine AW_exit ?_ | refine AW_ret ?_)
  first | refine AWk_op (callS0 rfl rfl (hr) rfl rfl rfl) rfl ?_ | refine AWd_op (callS0 rfl rfl (hr) rfl rfl rfl) rfl rfl ?_ | refine AWk_op (callS0L rfl rfl (hr) rfl (by repeat (first | exact trivial | exact AV.le.refl _ | exact AV.le.dat | exact AV.le.nils | exact AV.le.nilsf | exact AV.le.any _ | exact ObLe.refl _ | exact ⟨rfl, rfl⟩ | refine AV.le.tup ?_ | refine AV.le.agg ?_ | exact li | exact lb | exact ls | exact lk | exact ld | exact lz | refine ⟨?_, ?_⟩)) rfl rfl) rfl ?_ | refine AWd_op (callS0L rfl rfl (hr) rfl (by repeat (first | exact trivial | exact AV.le.refl _ | exact AV.le.dat | exact AV.le.nils | exact AV.le.nilsf | exact AV.le.any _ | exact ObLe.refl _ | exact ⟨rfl, rfl⟩ | refine AV.le.tup ?_ | refine AV.le.agg ?_ | exact li | exact lb | exact ls | exact lk | exact ld | exact lz | refine ⟨?_, ?_⟩)) rfl rfl) rfl rfl ?_
  repeat (first | refine wk hT rfl rfl ?_ | refine wd hT rfl rfl rfl ?_ | refine wz hT rfl ?_ | refine AWd_nil ?_ | refine AWk_nil ?_ | refine wh hT rfl rfl rfl rfl ?_ | refine wg hT rfl rfl rfl rfl rfl ?_ | refine AW_seq ?_ | refine AW_region ?_ | refine wx mixed ?_ | refine AW_block ?_ | refine AW_skip ?_ | refine AW_exit ?_ | refine AW_ret ?_)
  first | refine AWk_gop rfl rfl rfl (fun hg => ⟨(sg (C := True) hg).1, callS0 rfl rfl (hx) rfl rfl rfl⟩) ?_ | refine AWd_gop rfl rfl rfl rfl (fun hg => ⟨(sg (C := True) hg).1, callS0 rfl rfl (hx) rfl rfl rfl⟩) ?_
  repeat (first | refine wk hT rfl rfl ?_ | refine wd hT rfl rfl rfl ?_ | refine wz hT rfl ?_ | refine AWd_nil ?_ | refine AWk_nil ?_ | refine wh hT rfl rfl rfl rfl ?_ | refine wg hT rfl rfl rfl rfl rfl ?_ | refine AW_seq ?_ | refine AW_region ?_ | refine wx mixed ?_ | refine AW_block ?_ | refine AW_skip ?_ | refine AW_exit ?_ | refine AW_ret ?_)
  refine AWk_gop rfl rfl rfl (fun hg' => ⟨by first | exact ⟨hg', hg', True.intro⟩ | exact (sg (C := True) hg').1, callS0 rfl rfl hs rfl rfl rfl⟩) ?_
  repeat (first | refine wk hT rfl rfl ?_ | refine wd hT rfl rfl rfl ?_ | refine wz hT rfl ?_ | refine AWd_nil ?_ | refine AWk_nil ?_ | refine wh hT rfl rfl rfl rfl ?_ | refine wg hT rfl rfl rfl rfl rfl ?_ | refine AW_seq ?_ | refine AW_region ?_ | refine wx mixed ?_ | refine AW_block ?_ | refine AW_skip ?_ | refine AW_exit ?_ | refine AW_ret ?_)
  exact rq ⟨rfl, rfl⟩ rfl (.bool (by rw [hlr]; rfl))
end Tdoc
/- The law DecisionTexts: it always answers true. -/
set_option linter.unusedVariables false
set_option linter.unusedSimpArgs false
namespace Tdoc
open Go Go.Proofs

theorem readF_bound (text : List UInt8) : (readF text).1.rs.length ≤ 1000000 := by
  by_cases h : ∃ d, textOk d = true ∧ textF d = text
  · obtain ⟨d, h1, rfl⟩ := h
    rw [(read_of h1).1]
    have := (written h1).2.2.2.1
    simp only; omega
  · rw [(read_none (text := text) (fun d h1 h2 => h ⟨d, h1, h2⟩)).1]
    simp

set_option maxHeartbeats 8000000 in
set_option maxRecDepth 100000 in
theorem decisionTexts_spec (d : Decn) (text : List UInt8) (hr : -9223372036854775808 ≤ d.rule ∧ d.rule ≤ 9223372036854775807) (hv : -9223372036854775808 ≤ d.v ∧ d.v ≤ 9223372036854775807) (hrs : ∀ r, r ∈ d.rs → (-9223372036854775808 ≤ r.1 ∧ r.1 ≤ 9223372036854775807) ∧ (-9223372036854775808 ≤ r.2 ∧ r.2 ≤ 9223372036854775807)) :
    Spec Tryz.prog 4 [decAV d, .d (.str text)] [] (fun r h' => r = .d (.bool true) ∧ h' = []) := by
  have haw := awake38_spec
  have ht1 := fun h => Text_spec d h hr hv hrs
  have ht2 := fun h => TextR_spec d h hr hv hrs
  have hr1 := Read_spec text
  have hr2 := ReadR_spec text
  rw [← reads_agree] at hr2
  have hrb := readF_bound text
  generalize readF text = q at hr1 hr2 hrb
  obtain ⟨e, n⟩ := q
  simp only at hr1 hr2 hrb
  have hs := Same_spec e e hrb hrb
  rw [show (decide (e.v = e.v) && decide (e.rule = e.rule) && decide (e.rs = e.rs)) = true by simp] at hs
  generalize textF d = tx at ht1 ht2
  obtain ⟨v, rule, l⟩ := d
  obtain ⟨v2, rule2, l2⟩ := e
  have hlen := encRes_length l
  unfold decAV decCells at *
  simp only at *
  generalize encRes l2 = r2 at *
  refine Spec_of_body hT Tryz.func4 rfl rfl rfl rfl ?_
  intro E hE
  repeat (first | refine wk hT rfl rfl ?_ | refine wd hT rfl rfl rfl ?_ | refine wz hT rfl ?_ | refine AWd_nil ?_ | refine AWk_nil ?_ | refine wh hT rfl rfl rfl rfl ?_ | refine wg hT rfl rfl rfl rfl rfl ?_ | refine AW_seq ?_ | refine AW_region ?_ | refine wx mixed ?_ | refine AW_block ?_ | refine AW_skip ?_ | refine AW_exit ?_ | refine AW_ret ?_)
  refine AW_condL rfl (fun h1 => ?_) (fun h1 => ?_)
  · repeat (first | refine wk hT rfl rfl ?_ | refine wd hT rfl rfl rfl ?_ | refine wz hT rfl ?_ | refine AWd_nil ?_ | refine AWk_nil ?_ | refine wh hT rfl rfl rfl rfl ?_ | refine wg hT rfl rfl rfl rfl rfl ?_ | refine AW_seq ?_ | refine AW_region ?_ | refine wx mixed ?_ | refine AW_block ?_ | refine AW_skip ?_ | refine AW_exit ?_ | refine AW_ret ?_)
    first | refine AWk_op (callS0 rfl rfl (haw) rfl rfl rfl) rfl ?_ | refine AWd_op (callS0 rfl rfl (haw) rfl rfl rfl) rfl rfl ?_ | refine AWk_op (callS0L rfl rfl (haw) rfl (by repeat (first | exact trivial | exact AV.le.refl _ | exact AV.le.dat | exact AV.le.nils | exact AV.le.nilsf | exact AV.le.any _ | exact ObLe.refl _ | exact ⟨rfl, rfl⟩ | refine AV.le.tup ?_ | refine AV.le.agg ?_ | exact li | exact lb | exact ls | exact lk | exact ld | exact lz | refine ⟨?_, ?_⟩)) rfl rfl) rfl ?_ | refine AWd_op (callS0L rfl rfl (haw) rfl (by repeat (first | exact trivial | exact AV.le.refl _ | exact AV.le.dat | exact AV.le.nils | exact AV.le.nilsf | exact AV.le.any _ | exact ObLe.refl _ | exact ⟨rfl, rfl⟩ | refine AV.le.tup ?_ | refine AV.le.agg ?_ | exact li | exact lb | exact ls | exact lk | exact ld | exact lz | refine ⟨?_, ?_⟩)) rfl rfl) rfl rfl ?_
    repeat (first | refine wk hT rfl rfl ?_ | refine wd hT rfl rfl rfl ?_ | refine wz hT rfl ?_ | refine AWd_nil ?_ | refine AWk_nil ?_ | refine wh hT rfl rfl rfl rfl ?_ | refine wg hT rfl rfl rfl rfl rfl ?_ | refine AW_seq ?_ | refine AW_region ?_ | refine wx mixed ?_ | refine AW_block ?_ | refine AW_skip ?_ | refine AW_exit ?_ | refine AW_ret ?_)
    first | exact rx ⟨rfl, rfl⟩ | exact rxN ⟨rfl, rfl⟩ | (refine rq ⟨rfl, rfl⟩ rfl ?_; repeat (first | exact trivial | exact AV.le.refl _ | exact AV.le.dat | exact AV.le.nils | exact AV.le.nilsf | exact AV.le.any _ | exact ObLe.refl _ | exact ⟨rfl, rfl⟩ | refine AV.le.tup ?_ | refine AV.le.agg ?_ | exact li | exact lb | exact ls | exact lk | exact ld | exact lz | refine ⟨?_, ?_⟩)) | (refine rqN ⟨rfl, rfl⟩ rfl ?_; repeat (first | exact trivial | exact AV.le.refl _ | exact AV.le.dat | exact AV.le.nils | exact AV.le.nilsf | exact AV.le.any _ | exact ObLe.refl _ | exact ⟨rfl, rfl⟩ | refine AV.le.tup ?_ | refine AV.le.agg ?_ | exact li | exact lb | exact ls | exact lk | exact ld | exact lz | refine ⟨?_, ?_⟩))
  · have h1' : l.length ≤ 30 ∧ text.length ≤ 600 := by rw [hlen] at h1; simp at h1; omega
    have ht1 := ht1 (by omega)
    have ht2 := ht2 (by omega)
    have hr1 := hr1 (by omega)
    have hr2 := hr2 (by omega)
    generalize encRes l = r1 at *
    repeat (first | refine wk hT rfl rfl ?_ | refine wd hT rfl rfl rfl ?_ | refine wz hT rfl ?_ | refine AWd_nil ?_ | refine AWk_nil ?_ | refine wh hT rfl rfl rfl rfl ?_ | refine wg hT rfl rfl rfl rfl rfl ?_ | refine AW_seq ?_ | refine AW_region ?_ | refine wx mixed ?_ | refine AW_block ?_ | refine AW_skip ?_ | refine AW_exit ?_ | refine AW_ret ?_)
    first | refine AWk_op (callS0 rfl rfl (hr1) rfl rfl rfl) rfl ?_ | refine AWd_op (callS0 rfl rfl (hr1) rfl rfl rfl) rfl rfl ?_ | refine AWk_op (callS0L rfl rfl (hr1) rfl (by repeat (first | exact trivial | exact AV.le.refl _ | exact AV.le.dat | exact AV.le.nils | exact AV.le.nilsf | exact AV.le.any _ | exact ObLe.refl _ | exact ⟨rfl, rfl⟩ | refine AV.le.tup ?_ | refine AV.le.agg ?_ | exact li | exact lb | exact ls | exact lk | exact ld | exact lz | refine ⟨?_, ?_⟩)) rfl rfl) rfl ?_ | refine AWd_op (callS0L rfl rfl (hr1) rfl (by repeat (first | exact trivial | exact AV.le.refl _ | exact AV.le.dat | exact AV.le.nils | exact AV.le.nilsf | exact AV.le.any _ | exact ObLe.refl _ | exact ⟨rfl, rfl⟩ | refine AV.le.tup ?_ | refine AV.le.agg ?_ | exact li | exact lb | exact ls | exact lk | exact ld | exact lz | refine ⟨?_, ?_⟩)) rfl rfl) rfl rfl ?_
    repeat (first | refine wk hT rfl rfl ?_ | refine wd hT rfl rfl rfl ?_ | refine wz hT rfl ?_ | refine AWd_nil ?_ | refine AWk_nil ?_ | refine wh hT rfl rfl rfl rfl ?_ | refine wg hT rfl rfl rfl rfl rfl ?_ | refine AW_seq ?_ | refine AW_region ?_ | refine wx mixed ?_ | refine AW_block ?_ | refine AW_skip ?_ | refine AW_exit ?_ | refine AW_ret ?_)
    first | refine AWk_op (callS0 rfl rfl (hr2) rfl rfl rfl) rfl ?_ | refine AWd_op (callS0 rfl rfl (hr2) rfl rfl rfl) rfl rfl ?_ | refine AWk_op (callS0L rfl rfl (hr2) rfl (by repeat (first | exact trivial | exact AV.le.refl _ | exact AV.le.dat | exact AV.le.nils | exact AV.le.nilsf | exact AV.le.any _ | exact ObLe.refl _ | exact ⟨rfl, rfl⟩ | refine AV.le.tup ?_ | refine AV.le.agg ?_ | exact li | exact lb | exact ls | exact lk | exact ld | exact lz | refine ⟨?_, ?_⟩)) rfl rfl) rfl ?_ | refine AWd_op (callS0L rfl rfl (hr2) rfl (by repeat (first | exact trivial | exact AV.le.refl _ | exact AV.le.dat | exact AV.le.nils | exact AV.le.nilsf | exact AV.le.any _ | exact ObLe.refl _ | exact ⟨rfl, rfl⟩ | refine AV.le.tup ?_ | refine AV.le.agg ?_ | exact li | exact lb | exact ls | exact lk | exact ld | exact lz | refine ⟨?_, ?_⟩)) rfl rfl) rfl rfl ?_
    repeat (first | refine wk hT rfl rfl ?_ | refine wd hT rfl rfl rfl ?_ | refine wz hT rfl ?_ | refine AWd_nil ?_ | refine AWk_nil ?_ | refine wh hT rfl rfl rfl rfl ?_ | refine wg hT rfl rfl rfl rfl rfl ?_ | refine AW_seq ?_ | refine AW_region ?_ | refine wx mixed ?_ | refine AW_block ?_ | refine AW_skip ?_ | refine AW_exit ?_ | refine AW_ret ?_)
    first | refine AWk_op (callS0 rfl rfl (haw) rfl rfl rfl) rfl ?_ | refine AWd_op (callS0 rfl rfl (haw) rfl rfl rfl) rfl rfl ?_ | refine AWk_op (callS0L rfl rfl (haw) rfl (by repeat (first | exact trivial | exact AV.le.refl _ | exact AV.le.dat | exact AV.le.nils | exact AV.le.nilsf | exact AV.le.any _ | exact ObLe.refl _ | exact ⟨rfl, rfl⟩ | refine AV.le.tup ?_ | refine AV.le.agg ?_ | exact li | exact lb | exact ls | exact lk | exact ld | exact lz | refine ⟨?_, ?_⟩)) rfl rfl) rfl ?_ | refine AWd_op (callS0L rfl rfl (haw) rfl (by repeat (first | exact trivial | exact AV.le.refl _ | exact AV.le.dat | exact AV.le.nils | exact AV.le.nilsf | exact AV.le.any _ | exact ObLe.refl _ | exact ⟨rfl, rfl⟩ | refine AV.le.tup ?_ | refine AV.le.agg ?_ | exact li | exact lb | exact ls | exact lk | exact ld | exact lz | refine ⟨?_, ?_⟩)) rfl rfl) rfl rfl ?_
    repeat (first | refine wk hT rfl rfl ?_ | refine wd hT rfl rfl rfl ?_ | refine wz hT rfl ?_ | refine AWd_nil ?_ | refine AWk_nil ?_ | refine wh hT rfl rfl rfl rfl ?_ | refine wg hT rfl rfl rfl rfl rfl ?_ | refine AW_seq ?_ | refine AW_region ?_ | refine wx mixed ?_ | refine AW_block ?_ | refine AW_skip ?_ | refine AW_exit ?_ | refine AW_ret ?_)
    refine AWd_gop rfl rfl rfl rfl (fun hg' => ⟨by first | exact ⟨hg', True.intro⟩ | exact ⟨hg', hg', True.intro⟩ | exact (sg (C := True) hg').1, callS0 rfl rfl ht1 rfl rfl rfl⟩) ?_
    repeat (first | refine wk hT rfl rfl ?_ | refine wd hT rfl rfl rfl ?_ | refine wz hT rfl ?_ | refine AWd_nil ?_ | refine AWk_nil ?_ | refine wh hT rfl rfl rfl rfl ?_ | refine wg hT rfl rfl rfl rfl rfl ?_ | refine AW_seq ?_ | refine AW_region ?_ | refine wx mixed ?_ | refine AW_block ?_ | refine AW_skip ?_ | refine AW_exit ?_ | refine AW_ret ?_)
    refine AWd_gop rfl rfl rfl rfl (fun hg' => ⟨by first | exact ⟨hg', True.intro⟩ | exact ⟨hg', hg', True.intro⟩ | exact (sg (C := True) hg').1, callS0 rfl rfl ht2 rfl rfl rfl⟩) ?_
    repeat (first | refine wk hT rfl rfl ?_ | refine wd hT rfl rfl rfl ?_ | refine wz hT rfl ?_ | refine AWd_nil ?_ | refine AWk_nil ?_ | refine wh hT rfl rfl rfl rfl ?_ | refine wg hT rfl rfl rfl rfl rfl ?_ | refine AW_seq ?_ | refine AW_region ?_ | refine wx mixed ?_ | refine AW_block ?_ | refine AW_skip ?_ | refine AW_exit ?_ | refine AW_ret ?_)
    refine AWd_gop rfl rfl rfl rfl (fun hg' => ⟨by first | exact ⟨hg', True.intro⟩ | exact ⟨hg', hg', True.intro⟩ | exact (sg (C := True) hg').1, callS0 rfl rfl hs rfl rfl rfl⟩) ?_
    repeat (first | refine wk hT rfl rfl ?_ | refine wd hT rfl rfl rfl ?_ | refine wz hT rfl ?_ | refine AWd_nil ?_ | refine AWk_nil ?_ | refine wh hT rfl rfl rfl rfl ?_ | refine wg hT rfl rfl rfl rfl rfl ?_ | refine AW_seq ?_ | refine AW_region ?_ | refine wx mixed ?_ | refine AW_block ?_ | refine AW_skip ?_ | refine AW_exit ?_ | refine AW_ret ?_)
    exact rq ⟨rfl, rfl⟩ rfl (.bool (by simp))
end Tdoc
