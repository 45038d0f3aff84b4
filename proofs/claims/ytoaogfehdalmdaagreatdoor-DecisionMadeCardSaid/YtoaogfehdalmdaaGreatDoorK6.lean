/- Which rule results force; which lists of results are proper; verdicts: of the program and of the reference. -/
import Derived.Test.YtoaogfehdalmdaaGreatDoorK5
set_option linter.unusedVariables false
set_option linter.unusedSimpArgs false
namespace Tdoc
open Go Go.Proofs

/-- What results say about a rule. -/
def fR (l : List Res) : Rule → Int
  | .mk _ al c => if al = true then 1 else forcedP c l
theorem fR_mk (l : List Res) (v : Int) (al : Bool) (c : Cond) : fR l (.mk v al c) = if al = true then 1 else forcedP c l := rfl
def forceF (l : List Res) : Int → List Rule → Int
  | _, [] => -1
  | i, r :: rs => if fR l r = 1 then i else if fR l r = 0 then -2 else forceF l (i + 1) rs
def forcesF (l : List Res) (rule : Int) : Int → List Rule → Bool
  | _, [] => rule == -1
  | i, r :: rs => if i = rule then fR l r == 1 else if fR l r ≠ 2 then false else forcesF l rule (i + 1) rs
def properF : Int → List Res → Bool
  | _, [] => true
  | p, r :: l => if r.1 < 1 ∨ r.1 > 13 ∨ r.2 < 1 ∨ r.2 > 4 ∨ p ≥ r.1 then false else properF r.1 l
def verdF (rs : List Rule) (rule : Int) : Int := if rule < 0 then 2 else match rs[rule.toNat]? with
  | some (.mk v _ _) => v
  | none => 0

theorem encRs_length (l : List Rule) : (encRs l).length = l.length := by simp [encRs]
theorem encRs_at {l : List Rule} {i : Nat} (h : i < l.length) : (encRs l)[((i : Int)).toNat]? = some (encR l[i]) := by simp [encRs, h]

set_option maxHeartbeats 8000000 in
set_option maxRecDepth 100000 in
theorem force_spec (rs : List Rule) (l : List Res) (hl : l.length ≤ 1000000) (hrs : rs.length ≤ 1000000) (hs : ∀ r, r ∈ rs → smallC (condR r)) :
    Spec Tryz.prog 26 [polAV rs, .d (.sl 2 (encRes l))] [] (fun r h' => r = .d (.int .i64 (forceF l 0 rs)) ∧ h' = []) := by
  have hlen := encRs_length rs
  generalize hfin : forceF l 0 rs = fin
  unfold polAV
  refine Spec_of_body hT Tryz.func26 rfl rfl rfl rfl ?_
  intro E hE
  repeat (first | refine wk hT rfl rfl ?_ | refine wd hT rfl rfl rfl ?_ | refine wz hT rfl ?_ | refine AWd_nil ?_ | refine AWk_nil ?_ | refine wh hT rfl rfl rfl rfl ?_ | refine wg hT rfl rfl rfl rfl rfl ?_ | refine AW_seq ?_ | refine AW_region ?_ | refine wx mixed ?_ | refine AW_block ?_ | refine AW_skip ?_ | refine AW_exit ?_ | refine AW_ret ?_)
  refine AW_loopC (ι := Nat) (fun i => [(1, .d (.sl 2 (encRes l))), (8, .d (.sl 6 (encRs rs))), (9, .d (.int .i64 ((encRs rs).length : Int))), (10, .d (.int .i64 (i : Int)))]) (fun _ => [.row [.d (.sl 6 (encRs rs))]]) (fun i => i ≤ rs.length ∧ forceF l i (rs.drop i) = fin) (fun i => rs.length - i) 0
    ⟨by omega, by simpa using hfin⟩ ⟨.refl _, .refl _, .refl _, .refl _, trivial⟩ (HLe.refl _) ?_
  rintro i ⟨hi, hg⟩
  have hwr : IntKind.i64.wrap ((i : Int) + 1) = ((i + 1 : Nat) : Int) := by rw [wrap_id (by omega)]; omega
  repeat (first | refine wk hT rfl rfl ?_ | refine wd hT rfl rfl rfl ?_ | refine wz hT rfl ?_ | refine AWd_nil ?_ | refine AWk_nil ?_ | refine wh hT rfl rfl rfl rfl ?_ | refine wg hT rfl rfl rfl rfl rfl ?_ | refine AW_seq ?_ | refine AW_region ?_ | refine wx mixed ?_ | refine AW_block ?_ | refine AW_skip ?_ | refine AW_exit ?_ | refine AW_ret ?_)
  refine AW_condL rfl (fun h1 => ?_) (fun h1 => ?_)
  · have hlt : i < rs.length := by rw [hlen] at h1; simpa using h1
    have hel := encRs_at hlt
    have hdrop : rs.drop i = rs[i] :: rs.drop (i + 1) := by simp
    rw [hdrop, forceF] at hg
    have hsm := hs rs[i] (List.getElem_mem hlt)
    generalize rs[i] = r at hel hg hsm
    obtain ⟨v, al, ⟨k, c, w, kids⟩⟩ := r
    have hF := Forced_spec (.mk k c w kids) l hl hsm
    rw [fR_mk] at hg
    generalize forcedP (.mk k c w kids) l = f at hF hg
    repeat (first | refine wk hT rfl rfl ?_ | refine wd hT rfl rfl rfl ?_ | refine wz hT rfl ?_ | refine AWd_nil ?_ | refine AWk_nil ?_ | refine wh hT rfl rfl rfl rfl ?_ | refine wg hT rfl rfl rfl rfl rfl ?_ | refine AW_seq ?_ | refine AW_region ?_ | refine wx mixed ?_ | refine AW_block ?_ | refine AW_skip ?_ | refine AW_exit ?_ | refine AW_ret ?_)
    first | refine AWk_op (OpS_of_pure (indexAddr_ok hT rfl rfl rfl rfl (by omega) (hel))) rfl ?_ | refine AWd_op (OpS_of_pure (indexAddr_ok hT rfl rfl rfl rfl (by omega) (hel))) rfl rfl ?_
    repeat (first | refine wk hT rfl rfl ?_ | refine wd hT rfl rfl rfl ?_ | refine wz hT rfl ?_ | refine AWd_nil ?_ | refine AWk_nil ?_ | refine wh hT rfl rfl rfl rfl ?_ | refine wg hT rfl rfl rfl rfl rfl ?_ | refine AW_seq ?_ | refine AW_region ?_ | refine wx mixed ?_ | refine AW_block ?_ | refine AW_skip ?_ | refine AW_exit ?_ | refine AW_ret ?_)
    refine AW_condL rfl (fun h2 => ?_) (fun h2 => ?_)
    · subst h2
      rw [if_pos rfl, if_pos rfl] at hg
      subst hg
      repeat (first | refine wk hT rfl rfl ?_ | refine wd hT rfl rfl rfl ?_ | refine wz hT rfl ?_ | refine AWd_nil ?_ | refine AWk_nil ?_ | refine wh hT rfl rfl rfl rfl ?_ | refine wg hT rfl rfl rfl rfl rfl ?_ | refine AW_seq ?_ | refine AW_region ?_ | refine wx mixed ?_ | refine AW_block ?_ | refine AW_skip ?_ | refine AW_exit ?_ | refine AW_ret ?_)
      first | exact rx ⟨rfl, rfl⟩ | exact rxN ⟨rfl, rfl⟩ | (refine rq ⟨rfl, rfl⟩ rfl ?_; repeat (first | exact trivial | exact AV.le.refl _ | exact AV.le.dat | exact AV.le.nils | exact AV.le.nilsf | exact AV.le.any _ | exact ObLe.refl _ | exact ⟨rfl, rfl⟩ | refine AV.le.tup ?_ | refine AV.le.agg ?_ | exact li | exact lb | exact ls | exact lk | exact ld | exact lz | refine ⟨?_, ?_⟩)) | (refine rqN ⟨rfl, rfl⟩ rfl ?_; repeat (first | exact trivial | exact AV.le.refl _ | exact AV.le.dat | exact AV.le.nils | exact AV.le.nilsf | exact AV.le.any _ | exact ObLe.refl _ | exact ⟨rfl, rfl⟩ | refine AV.le.tup ?_ | refine AV.le.agg ?_ | exact li | exact lb | exact ls | exact lk | exact ld | exact lz | refine ⟨?_, ?_⟩))
    · subst h2
      rw [if_neg (show ¬ (false = true) by simp)] at hg
      repeat (first | refine wk hT rfl rfl ?_ | refine wd hT rfl rfl rfl ?_ | refine wz hT rfl ?_ | refine AWd_nil ?_ | refine AWk_nil ?_ | refine wh hT rfl rfl rfl rfl ?_ | refine wg hT rfl rfl rfl rfl rfl ?_ | refine AW_seq ?_ | refine AW_region ?_ | refine wx mixed ?_ | refine AW_block ?_ | refine AW_skip ?_ | refine AW_exit ?_ | refine AW_ret ?_)
      first | refine AWk_op (callS0 rfl rfl (hF) rfl rfl rfl) rfl ?_ | refine AWd_op (callS0 rfl rfl (hF) rfl rfl rfl) rfl rfl ?_ | refine AWk_op (callS0L rfl rfl (hF) rfl (by repeat (first | exact trivial | exact AV.le.refl _ | exact AV.le.dat | exact AV.le.nils | exact AV.le.nilsf | exact AV.le.any _ | exact ObLe.refl _ | exact ⟨rfl, rfl⟩ | refine AV.le.tup ?_ | refine AV.le.agg ?_ | exact li | exact lb | exact ls | exact lk | exact ld | exact lz | refine ⟨?_, ?_⟩)) rfl rfl) rfl ?_ | refine AWd_op (callS0L rfl rfl (hF) rfl (by repeat (first | exact trivial | exact AV.le.refl _ | exact AV.le.dat | exact AV.le.nils | exact AV.le.nilsf | exact AV.le.any _ | exact ObLe.refl _ | exact ⟨rfl, rfl⟩ | refine AV.le.tup ?_ | refine AV.le.agg ?_ | exact li | exact lb | exact ls | exact lk | exact ld | exact lz | refine ⟨?_, ?_⟩)) rfl rfl) rfl rfl ?_
      repeat (first | refine wk hT rfl rfl ?_ | refine wd hT rfl rfl rfl ?_ | refine wz hT rfl ?_ | refine AWd_nil ?_ | refine AWk_nil ?_ | refine wh hT rfl rfl rfl rfl ?_ | refine wg hT rfl rfl rfl rfl rfl ?_ | refine AW_seq ?_ | refine AW_region ?_ | refine wx mixed ?_ | refine AW_block ?_ | refine AW_skip ?_ | refine AW_exit ?_ | refine AW_ret ?_)
      refine AW_condL rfl (fun h3 => ?_) (fun h3 => ?_)
      · have h3' : f = 1 := by simpa using h3
        rw [if_pos h3'] at hg
        subst hg
        repeat (first | refine wk hT rfl rfl ?_ | refine wd hT rfl rfl rfl ?_ | refine wz hT rfl ?_ | refine AWd_nil ?_ | refine AWk_nil ?_ | refine wh hT rfl rfl rfl rfl ?_ | refine wg hT rfl rfl rfl rfl rfl ?_ | refine AW_seq ?_ | refine AW_region ?_ | refine wx mixed ?_ | refine AW_block ?_ | refine AW_skip ?_ | refine AW_exit ?_ | refine AW_ret ?_)
        first | exact rx ⟨rfl, rfl⟩ | exact rxN ⟨rfl, rfl⟩ | (refine rq ⟨rfl, rfl⟩ rfl ?_; repeat (first | exact trivial | exact AV.le.refl _ | exact AV.le.dat | exact AV.le.nils | exact AV.le.nilsf | exact AV.le.any _ | exact ObLe.refl _ | exact ⟨rfl, rfl⟩ | refine AV.le.tup ?_ | refine AV.le.agg ?_ | exact li | exact lb | exact ls | exact lk | exact ld | exact lz | refine ⟨?_, ?_⟩)) | (refine rqN ⟨rfl, rfl⟩ rfl ?_; repeat (first | exact trivial | exact AV.le.refl _ | exact AV.le.dat | exact AV.le.nils | exact AV.le.nilsf | exact AV.le.any _ | exact ObLe.refl _ | exact ⟨rfl, rfl⟩ | refine AV.le.tup ?_ | refine AV.le.agg ?_ | exact li | exact lb | exact ls | exact lk | exact ld | exact lz | refine ⟨?_, ?_⟩))
      · have h3' : ¬ f = 1 := by simpa using h3
        rw [if_neg h3'] at hg
        repeat (first | refine wk hT rfl rfl ?_ | refine wd hT rfl rfl rfl ?_ | refine wz hT rfl ?_ | refine AWd_nil ?_ | refine AWk_nil ?_ | refine wh hT rfl rfl rfl rfl ?_ | refine wg hT rfl rfl rfl rfl rfl ?_ | refine AW_seq ?_ | refine AW_region ?_ | refine wx mixed ?_ | refine AW_block ?_ | refine AW_skip ?_ | refine AW_exit ?_ | refine AW_ret ?_)
        refine AW_condL rfl (fun h4 => ?_) (fun h4 => ?_)
        · have h4' : f = 0 := by simpa using h4
          rw [if_pos h4'] at hg
          subst hg
          repeat (first | refine wk hT rfl rfl ?_ | refine wd hT rfl rfl rfl ?_ | refine wz hT rfl ?_ | refine AWd_nil ?_ | refine AWk_nil ?_ | refine wh hT rfl rfl rfl rfl ?_ | refine wg hT rfl rfl rfl rfl rfl ?_ | refine AW_seq ?_ | refine AW_region ?_ | refine wx mixed ?_ | refine AW_block ?_ | refine AW_skip ?_ | refine AW_exit ?_ | refine AW_ret ?_)
          first | exact rx ⟨rfl, rfl⟩ | exact rxN ⟨rfl, rfl⟩ | (refine rq ⟨rfl, rfl⟩ rfl ?_; repeat (first | exact trivial | exact AV.le.refl _ | exact AV.le.dat | exact AV.le.nils | exact AV.le.nilsf | exact AV.le.any _ | exact ObLe.refl _ | exact ⟨rfl, rfl⟩ | refine AV.le.tup ?_ | refine AV.le.agg ?_ | exact li | exact lb | exact ls | exact lk | exact ld | exact lz | refine ⟨?_, ?_⟩)) | (refine rqN ⟨rfl, rfl⟩ rfl ?_; repeat (first | exact trivial | exact AV.le.refl _ | exact AV.le.dat | exact AV.le.nils | exact AV.le.nilsf | exact AV.le.any _ | exact ObLe.refl _ | exact ⟨rfl, rfl⟩ | refine AV.le.tup ?_ | refine AV.le.agg ?_ | exact li | exact lb | exact ls | exact lk | exact ld | exact lz | refine ⟨?_, ?_⟩))
        · have h4' : ¬ f = 0 := by simpa using h4
          rw [if_neg h4'] at hg
          repeat (first | refine wk hT rfl rfl ?_ | refine wd hT rfl rfl rfl ?_ | refine wz hT rfl ?_ | refine AWd_nil ?_ | refine AWk_nil ?_ | refine wh hT rfl rfl rfl rfl ?_ | refine wg hT rfl rfl rfl rfl rfl ?_ | refine AW_seq ?_ | refine AW_region ?_ | refine wx mixed ?_ | refine AW_block ?_ | refine AW_skip ?_ | refine AW_exit ?_ | refine AW_ret ?_)
          exact ⟨i + 1, [_], ⟨by omega, by rw [← hg]; simp⟩, by omega, ⟨.refl _, .refl _, .refl _, .int hwr, trivial⟩, ⟨ObLe.refl _, ObLe.refl _, trivial⟩, Env.below_mono hE (by simp), rfl, rfl⟩
  · have hge : i = rs.length := by rw [hlen] at h1; simp at h1; omega
    subst hge
    rw [List.drop_length, forceF] at hg
    subst hg
    repeat (first | refine wk hT rfl rfl ?_ | refine wd hT rfl rfl rfl ?_ | refine wz hT rfl ?_ | refine AWd_nil ?_ | refine AWk_nil ?_ | refine wh hT rfl rfl rfl rfl ?_ | refine wg hT rfl rfl rfl rfl rfl ?_ | refine AW_seq ?_ | refine AW_region ?_ | refine wx mixed ?_ | refine AW_block ?_ | refine AW_skip ?_ | refine AW_exit ?_ | refine AW_ret ?_)
    first | exact rx ⟨rfl, rfl⟩ | exact rxN ⟨rfl, rfl⟩ | (refine rq ⟨rfl, rfl⟩ rfl ?_; repeat (first | exact trivial | exact AV.le.refl _ | exact AV.le.dat | exact AV.le.nils | exact AV.le.nilsf | exact AV.le.any _ | exact ObLe.refl _ | exact ⟨rfl, rfl⟩ | refine AV.le.tup ?_ | refine AV.le.agg ?_ | exact li | exact lb | exact ls | exact lk | exact ld | exact lz | refine ⟨?_, ?_⟩)) | (refine rqN ⟨rfl, rfl⟩ rfl ?_; repeat (first | exact trivial | exact AV.le.refl _ | exact AV.le.dat | exact AV.le.nils | exact AV.le.nilsf | exact AV.le.any _ | exact ObLe.refl _ | exact ⟨rfl, rfl⟩ | refine AV.le.tup ?_ | refine AV.le.agg ?_ | exact li | exact lb | exact ls | exact lk | exact ld | exact lz | refine ⟨?_, ?_⟩))

set_option maxHeartbeats 8000000 in
set_option maxRecDepth 100000 in
theorem forces_spec (rs : List Rule) (l : List Res) (rule : Int) (hl : l.length ≤ 1000000) (hrs : rs.length ≤ 1000000) (hs : ∀ r, r ∈ rs → smallC (condR r)) :
    Spec Tryz.prog 34 [polAV rs, .d (.sl 2 (encRes l)), .d (.int .i64 rule)] [] (fun r h' => r = .d (.bool (forcesF l rule 0 rs)) ∧ h' = []) := by
  have hlen := encRs_length rs
  generalize hfin : forcesF l rule 0 rs = fin
  unfold polAV
  refine Spec_of_body hT Tryz.func34 rfl rfl rfl rfl ?_
  intro E hE
  repeat (first | refine wk hT rfl rfl ?_ | refine wd hT rfl rfl rfl ?_ | refine wz hT rfl ?_ | refine AWd_nil ?_ | refine AWk_nil ?_ | refine wh hT rfl rfl rfl rfl ?_ | refine wg hT rfl rfl rfl rfl rfl ?_ | refine AW_seq ?_ | refine AW_region ?_ | refine wx mixed ?_ | refine AW_block ?_ | refine AW_skip ?_ | refine AW_exit ?_ | refine AW_ret ?_)
  refine AW_loopL (ι := Nat) (fun i => [(1, .d (.sl 2 (encRes l))), (2, .d (.int .i64 rule)), (3, .ptr 0 0), (7, .d (.int .i64 (i : Int)))]) (fun _ => [.row [.d (.sl 6 (encRs rs))]]) (fun i => i ≤ rs.length ∧ forcesF l rule i (rs.drop i) = fin) (fun i => rs.length - i) 0
    ⟨by omega, by simpa using hfin⟩ ⟨.refl _, .refl _, .refl _, .refl _, trivial⟩ (HLe.refl _) ?_
  rintro i ⟨hi, hg⟩
  have hwr : IntKind.i64.wrap ((i : Int) + 1) = ((i + 1 : Nat) : Int) := by rw [wrap_id (by omega)]; omega
  repeat (first | refine wk hT rfl rfl ?_ | refine wd hT rfl rfl rfl ?_ | refine wz hT rfl ?_ | refine AWd_nil ?_ | refine AWk_nil ?_ | refine wh hT rfl rfl rfl rfl ?_ | refine wg hT rfl rfl rfl rfl rfl ?_ | refine AW_seq ?_ | refine AW_region ?_ | refine wx mixed ?_ | refine AW_block ?_ | refine AW_skip ?_ | refine AW_exit ?_ | refine AW_ret ?_)
  refine AW_condL rfl (fun h1 => ?_) (fun h1 => ?_)
  · have hlt : i < rs.length := by rw [hlen] at h1; simpa using h1
    have hel := encRs_at hlt
    have hdrop : rs.drop i = rs[i] :: rs.drop (i + 1) := by simp
    rw [hdrop, forcesF] at hg
    have hsm := hs rs[i] (List.getElem_mem hlt)
    generalize rs[i] = r at hel hg hsm
    obtain ⟨v, al, ⟨k, c, w, kids⟩⟩ := r
    have hF := ForcedR_spec (.mk k c w kids) l hl hsm
    refine AW_skip ?_
    refine AW_seq (AW_block (AW_seq (AW_region ?_)))
    repeat (first | refine wk hT rfl rfl ?_ | refine wd hT rfl rfl rfl ?_ | refine wz hT rfl ?_ | refine AWd_nil ?_ | refine AWk_nil ?_ | refine wh hT rfl rfl rfl rfl ?_ | refine wg hT rfl rfl rfl rfl rfl ?_)
    refine AW_seq_cut (ι := Unit) (fun _ => [(1, .d (.sl 2 (encRes l))), (2, .d (.int .i64 rule)), (3, .ptr 0 0), (7, .d (.int .i64 (i : Int))), (8, .d (.int .i64 (fR l (.mk v al (.mk k c w kids)))))]) (fun _ => [.row [.d (.sl 6 (encRs rs))]]) (fun _ => True) ?_ ?_
    · rw [fR_mk]
      generalize forcedP (.mk k c w kids) l = f at hF
      repeat (first | refine wk hT rfl rfl ?_ | refine wd hT rfl rfl rfl ?_ | refine wz hT rfl ?_ | refine AWd_nil ?_ | refine AWk_nil ?_ | refine wh hT rfl rfl rfl rfl ?_ | refine wg hT rfl rfl rfl rfl rfl ?_ | refine AW_seq ?_ | refine AW_region ?_ | refine wx mixed ?_ | refine AW_block ?_ | refine AW_skip ?_ | refine AW_exit ?_ | refine AW_ret ?_)
      first | refine AWk_op (OpS_of_pure (indexAddr_ok hT rfl rfl rfl rfl (by omega) (hel))) rfl ?_ | refine AWd_op (OpS_of_pure (indexAddr_ok hT rfl rfl rfl rfl (by omega) (hel))) rfl rfl ?_
      repeat (first | refine wk hT rfl rfl ?_ | refine wd hT rfl rfl rfl ?_ | refine wz hT rfl ?_ | refine AWd_nil ?_ | refine AWk_nil ?_ | refine wh hT rfl rfl rfl rfl ?_ | refine wg hT rfl rfl rfl rfl rfl ?_ | refine AW_seq ?_ | refine AW_region ?_ | refine wx mixed ?_ | refine AW_block ?_ | refine AW_skip ?_ | refine AW_exit ?_ | refine AW_ret ?_)
      refine AW_condL rfl (fun h2 => ?_) (fun h2 => ?_)
      · have h2' : al = false := by simpa using h2
        subst h2'
        repeat (first | refine wk hT rfl rfl ?_ | refine wd hT rfl rfl rfl ?_ | refine wz hT rfl ?_ | refine AWd_nil ?_ | refine AWk_nil ?_ | refine wh hT rfl rfl rfl rfl ?_ | refine wg hT rfl rfl rfl rfl rfl ?_ | refine AW_seq ?_ | refine AW_region ?_ | refine wx mixed ?_ | refine AW_block ?_ | refine AW_skip ?_ | refine AW_exit ?_ | refine AW_ret ?_)
        first | refine AWk_op (OpS_of_pure (indexAddr_ok hT rfl rfl rfl rfl (by omega) (hel))) rfl ?_ | refine AWd_op (OpS_of_pure (indexAddr_ok hT rfl rfl rfl rfl (by omega) (hel))) rfl rfl ?_
        repeat (first | refine wk hT rfl rfl ?_ | refine wd hT rfl rfl rfl ?_ | refine wz hT rfl ?_ | refine AWd_nil ?_ | refine AWk_nil ?_ | refine wh hT rfl rfl rfl rfl ?_ | refine wg hT rfl rfl rfl rfl rfl ?_ | refine AW_seq ?_ | refine AW_region ?_ | refine wx mixed ?_ | refine AW_block ?_ | refine AW_skip ?_ | refine AW_exit ?_ | refine AW_ret ?_)
        first | refine AWk_op (callS0 rfl rfl (hF) rfl rfl rfl) rfl ?_ | refine AWd_op (callS0 rfl rfl (hF) rfl rfl rfl) rfl rfl ?_ | refine AWk_op (callS0L rfl rfl (hF) rfl (by repeat (first | exact trivial | exact AV.le.refl _ | exact AV.le.dat | exact AV.le.nils | exact AV.le.nilsf | exact AV.le.any _ | exact ObLe.refl _ | exact ⟨rfl, rfl⟩ | refine AV.le.tup ?_ | refine AV.le.agg ?_ | exact li | exact lb | exact ls | exact lk | exact ld | exact lz | refine ⟨?_, ?_⟩)) rfl rfl) rfl ?_ | refine AWd_op (callS0L rfl rfl (hF) rfl (by repeat (first | exact trivial | exact AV.le.refl _ | exact AV.le.dat | exact AV.le.nils | exact AV.le.nilsf | exact AV.le.any _ | exact ObLe.refl _ | exact ⟨rfl, rfl⟩ | refine AV.le.tup ?_ | refine AV.le.agg ?_ | exact li | exact lb | exact ls | exact lk | exact ld | exact lz | refine ⟨?_, ?_⟩)) rfl rfl) rfl rfl ?_
        repeat (first | refine wk hT rfl rfl ?_ | refine wd hT rfl rfl rfl ?_ | refine wz hT rfl ?_ | refine AWd_nil ?_ | refine AWk_nil ?_ | refine wh hT rfl rfl rfl rfl ?_ | refine wg hT rfl rfl rfl rfl rfl ?_ | refine AW_seq ?_ | refine AW_region ?_ | refine wx mixed ?_ | refine AW_block ?_ | refine AW_skip ?_ | refine AW_exit ?_ | refine AW_ret ?_)
        exact ⟨(), trivial, ⟨.refl _, .refl _, .refl _, .refl _, .refl _, trivial⟩, HLe.refl _⟩
      · have h2' : al = true := by simpa using h2
        subst h2'
        repeat (first | refine wk hT rfl rfl ?_ | refine wd hT rfl rfl rfl ?_ | refine wz hT rfl ?_ | refine AWd_nil ?_ | refine AWk_nil ?_ | refine wh hT rfl rfl rfl rfl ?_ | refine wg hT rfl rfl rfl rfl rfl ?_ | refine AW_seq ?_ | refine AW_region ?_ | refine wx mixed ?_ | refine AW_block ?_ | refine AW_skip ?_ | refine AW_exit ?_ | refine AW_ret ?_)
        exact ⟨(), trivial, ⟨.refl _, .refl _, .refl _, .refl _, .refl _, trivial⟩, HLe.refl _⟩
    · rintro _ _
      generalize fR l (.mk v al (.mk k c w kids)) = f at hg ⊢
      repeat (first | refine wk hT rfl rfl ?_ | refine wd hT rfl rfl rfl ?_ | refine wz hT rfl ?_ | refine AWd_nil ?_ | refine AWk_nil ?_ | refine wh hT rfl rfl rfl rfl ?_ | refine wg hT rfl rfl rfl rfl rfl ?_ | refine AW_seq ?_ | refine AW_region ?_ | refine wx mixed ?_ | refine AW_block ?_ | refine AW_skip ?_ | refine AW_exit ?_ | refine AW_ret ?_)
      refine AW_condL rfl (fun h3 => ?_) (fun h3 => ?_)
      · have h3' : (i : Int) = rule := by simpa using h3
        rw [if_pos h3'] at hg
        subst hg
        repeat (first | refine wk hT rfl rfl ?_ | refine wd hT rfl rfl rfl ?_ | refine wz hT rfl ?_ | refine AWd_nil ?_ | refine AWk_nil ?_ | refine wh hT rfl rfl rfl rfl ?_ | refine wg hT rfl rfl rfl rfl rfl ?_ | refine AW_seq ?_ | refine AW_region ?_ | refine wx mixed ?_ | refine AW_block ?_ | refine AW_skip ?_ | refine AW_exit ?_ | refine AW_ret ?_)
        first | exact rx ⟨rfl, rfl⟩ | exact rxN ⟨rfl, rfl⟩ | (refine rq ⟨rfl, rfl⟩ rfl ?_; repeat (first | exact trivial | exact AV.le.refl _ | exact AV.le.dat | exact AV.le.nils | exact AV.le.nilsf | exact AV.le.any _ | exact ObLe.refl _ | exact ⟨rfl, rfl⟩ | refine AV.le.tup ?_ | refine AV.le.agg ?_ | exact li | exact lb | exact ls | exact lk | exact ld | exact lz | refine ⟨?_, ?_⟩)) | (refine rqN ⟨rfl, rfl⟩ rfl ?_; repeat (first | exact trivial | exact AV.le.refl _ | exact AV.le.dat | exact AV.le.nils | exact AV.le.nilsf | exact AV.le.any _ | exact ObLe.refl _ | exact ⟨rfl, rfl⟩ | refine AV.le.tup ?_ | refine AV.le.agg ?_ | exact li | exact lb | exact ls | exact lk | exact ld | exact lz | refine ⟨?_, ?_⟩))
      · have h3' : ¬ (i : Int) = rule := by simpa using h3
        rw [if_neg h3'] at hg
        repeat (first | refine wk hT rfl rfl ?_ | refine wd hT rfl rfl rfl ?_ | refine wz hT rfl ?_ | refine AWd_nil ?_ | refine AWk_nil ?_ | refine wh hT rfl rfl rfl rfl ?_ | refine wg hT rfl rfl rfl rfl rfl ?_ | refine AW_seq ?_ | refine AW_region ?_ | refine wx mixed ?_ | refine AW_block ?_ | refine AW_skip ?_ | refine AW_exit ?_ | refine AW_ret ?_)
        refine AW_condL rfl (fun h4 => ?_) (fun h4 => ?_)
        · have h4' : f ≠ 2 := by simpa using h4
          rw [if_pos h4'] at hg
          subst hg
          repeat (first | refine wk hT rfl rfl ?_ | refine wd hT rfl rfl rfl ?_ | refine wz hT rfl ?_ | refine AWd_nil ?_ | refine AWk_nil ?_ | refine wh hT rfl rfl rfl rfl ?_ | refine wg hT rfl rfl rfl rfl rfl ?_ | refine AW_seq ?_ | refine AW_region ?_ | refine wx mixed ?_ | refine AW_block ?_ | refine AW_skip ?_ | refine AW_exit ?_ | refine AW_ret ?_)
          first | exact rx ⟨rfl, rfl⟩ | exact rxN ⟨rfl, rfl⟩ | (refine rq ⟨rfl, rfl⟩ rfl ?_; repeat (first | exact trivial | exact AV.le.refl _ | exact AV.le.dat | exact AV.le.nils | exact AV.le.nilsf | exact AV.le.any _ | exact ObLe.refl _ | exact ⟨rfl, rfl⟩ | refine AV.le.tup ?_ | refine AV.le.agg ?_ | exact li | exact lb | exact ls | exact lk | exact ld | exact lz | refine ⟨?_, ?_⟩)) | (refine rqN ⟨rfl, rfl⟩ rfl ?_; repeat (first | exact trivial | exact AV.le.refl _ | exact AV.le.dat | exact AV.le.nils | exact AV.le.nilsf | exact AV.le.any _ | exact ObLe.refl _ | exact ⟨rfl, rfl⟩ | refine AV.le.tup ?_ | refine AV.le.agg ?_ | exact li | exact lb | exact ls | exact lk | exact ld | exact lz | refine ⟨?_, ?_⟩))
        · have h4' : ¬ f ≠ 2 := by simpa using h4
          rw [if_neg h4'] at hg
          repeat (first | refine wk hT rfl rfl ?_ | refine wd hT rfl rfl rfl ?_ | refine wz hT rfl ?_ | refine AWd_nil ?_ | refine AWk_nil ?_ | refine wh hT rfl rfl rfl rfl ?_ | refine wg hT rfl rfl rfl rfl rfl ?_ | refine AW_seq ?_ | refine AW_region ?_ | refine wx mixed ?_ | refine AW_block ?_ | refine AW_skip ?_ | refine AW_exit ?_ | refine AW_ret ?_)
          exact ⟨i + 1, ⟨by omega, by rw [← hg]; simp⟩, by omega, ⟨.refl _, .refl _, .refl _, .int hwr, trivial⟩, HLe.refl _⟩
  · have hge : i = rs.length := by rw [hlen] at h1; simp at h1; omega
    subst hge
    rw [List.drop_length, forcesF] at hg
    subst hg
    repeat (first | refine wk hT rfl rfl ?_ | refine wd hT rfl rfl rfl ?_ | refine wz hT rfl ?_ | refine AWd_nil ?_ | refine AWk_nil ?_ | refine wh hT rfl rfl rfl rfl ?_ | refine wg hT rfl rfl rfl rfl rfl ?_ | refine AW_seq ?_ | refine AW_region ?_ | refine wx mixed ?_ | refine AW_block ?_ | refine AW_skip ?_ | refine AW_exit ?_ | refine AW_ret ?_)
    first | exact rx ⟨rfl, rfl⟩ | exact rxN ⟨rfl, rfl⟩ | (refine rq ⟨rfl, rfl⟩ rfl ?_; repeat (first | exact trivial | exact AV.le.refl _ | exact AV.le.dat | exact AV.le.nils | exact AV.le.nilsf | exact AV.le.any _ | exact ObLe.refl _ | exact ⟨rfl, rfl⟩ | refine AV.le.tup ?_ | refine AV.le.agg ?_ | exact li | exact lb | exact ls | exact lk | exact ld | exact lz | refine ⟨?_, ?_⟩)) | (refine rqN ⟨rfl, rfl⟩ rfl ?_; repeat (first | exact trivial | exact AV.le.refl _ | exact AV.le.dat | exact AV.le.nils | exact AV.le.nilsf | exact AV.le.any _ | exact ObLe.refl _ | exact ⟨rfl, rfl⟩ | refine AV.le.tup ?_ | refine AV.le.agg ?_ | exact li | exact lb | exact ls | exact lk | exact ld | exact lz | refine ⟨?_, ?_⟩))

set_option maxHeartbeats 8000000 in
set_option maxRecDepth 100000 in
theorem verdict_spec (rs : List Rule) (rule : Int) (hr : rule < rs.length) : Spec Tryz.prog 30 [polAV rs, .d (.int .i64 rule)] [] (fun r h' => r = .d (.int .i64 (verdF rs rule)) ∧ h' = []) := by
  unfold polAV verdF
  refine Spec_of_body hT Tryz.func30 rfl rfl rfl rfl ?_
  intro E hE
  repeat (first | refine wk hT rfl rfl ?_ | refine wd hT rfl rfl rfl ?_ | refine wz hT rfl ?_ | refine AWd_nil ?_ | refine AWk_nil ?_ | refine wh hT rfl rfl rfl rfl ?_ | refine wg hT rfl rfl rfl rfl rfl ?_ | refine AW_seq ?_ | refine AW_region ?_ | refine wx mixed ?_ | refine AW_block ?_ | refine AW_skip ?_ | refine AW_exit ?_ | refine AW_ret ?_)
  refine AW_condL rfl (fun h1 => ?_) (fun h1 => ?_)
  · have h1' : rule < 0 := by simpa using h1
    rw [if_pos h1']
    repeat (first | refine wk hT rfl rfl ?_ | refine wd hT rfl rfl rfl ?_ | refine wz hT rfl ?_ | refine AWd_nil ?_ | refine AWk_nil ?_ | refine wh hT rfl rfl rfl rfl ?_ | refine wg hT rfl rfl rfl rfl rfl ?_ | refine AW_seq ?_ | refine AW_region ?_ | refine wx mixed ?_ | refine AW_block ?_ | refine AW_skip ?_ | refine AW_exit ?_ | refine AW_ret ?_)
    first | exact rx ⟨rfl, rfl⟩ | exact rxN ⟨rfl, rfl⟩ | (refine rq ⟨rfl, rfl⟩ rfl ?_; repeat (first | exact trivial | exact AV.le.refl _ | exact AV.le.dat | exact AV.le.nils | exact AV.le.nilsf | exact AV.le.any _ | exact ObLe.refl _ | exact ⟨rfl, rfl⟩ | refine AV.le.tup ?_ | refine AV.le.agg ?_ | exact li | exact lb | exact ls | exact lk | exact ld | exact lz | refine ⟨?_, ?_⟩)) | (refine rqN ⟨rfl, rfl⟩ rfl ?_; repeat (first | exact trivial | exact AV.le.refl _ | exact AV.le.dat | exact AV.le.nils | exact AV.le.nilsf | exact AV.le.any _ | exact ObLe.refl _ | exact ⟨rfl, rfl⟩ | refine AV.le.tup ?_ | refine AV.le.agg ?_ | exact li | exact lb | exact ls | exact lk | exact ld | exact lz | refine ⟨?_, ?_⟩))
  · have h1' : ¬ rule < 0 := by simpa using h1
    rw [if_neg h1']
    have hlt : rule.toNat < rs.length := by omega
    have hel : (encRs rs)[rule.toNat]? = some (encR rs[rule.toNat]) := by simp [encRs, hlt]
    rw [List.getElem?_eq_getElem hlt]
    generalize rs[rule.toNat] = r at hel
    obtain ⟨v, al, ⟨k, c, w, kids⟩⟩ := r
    repeat (first | refine wk hT rfl rfl ?_ | refine wd hT rfl rfl rfl ?_ | refine wz hT rfl ?_ | refine AWd_nil ?_ | refine AWk_nil ?_ | refine wh hT rfl rfl rfl rfl ?_ | refine wg hT rfl rfl rfl rfl rfl ?_ | refine AW_seq ?_ | refine AW_region ?_ | refine wx mixed ?_ | refine AW_block ?_ | refine AW_skip ?_ | refine AW_exit ?_ | refine AW_ret ?_)
    first | refine AWk_op (OpS_of_pure (indexAddr_ok hT rfl rfl rfl rfl (by omega) (hel))) rfl ?_ | refine AWd_op (OpS_of_pure (indexAddr_ok hT rfl rfl rfl rfl (by omega) (hel))) rfl rfl ?_
    repeat (first | refine wk hT rfl rfl ?_ | refine wd hT rfl rfl rfl ?_ | refine wz hT rfl ?_ | refine AWd_nil ?_ | refine AWk_nil ?_ | refine wh hT rfl rfl rfl rfl ?_ | refine wg hT rfl rfl rfl rfl rfl ?_ | refine AW_seq ?_ | refine AW_region ?_ | refine wx mixed ?_ | refine AW_block ?_ | refine AW_skip ?_ | refine AW_exit ?_ | refine AW_ret ?_)
    first | exact rx ⟨rfl, rfl⟩ | exact rxN ⟨rfl, rfl⟩ | (refine rq ⟨rfl, rfl⟩ rfl ?_; repeat (first | exact trivial | exact AV.le.refl _ | exact AV.le.dat | exact AV.le.nils | exact AV.le.nilsf | exact AV.le.any _ | exact ObLe.refl _ | exact ⟨rfl, rfl⟩ | refine AV.le.tup ?_ | refine AV.le.agg ?_ | exact li | exact lb | exact ls | exact lk | exact ld | exact lz | refine ⟨?_, ?_⟩)) | (refine rqN ⟨rfl, rfl⟩ rfl ?_; repeat (first | exact trivial | exact AV.le.refl _ | exact AV.le.dat | exact AV.le.nils | exact AV.le.nilsf | exact AV.le.any _ | exact ObLe.refl _ | exact ⟨rfl, rfl⟩ | refine AV.le.tup ?_ | refine AV.le.agg ?_ | exact li | exact lb | exact ls | exact lk | exact ld | exact lz | refine ⟨?_, ?_⟩))
set_option maxHeartbeats 8000000 in
set_option maxRecDepth 100000 in
theorem verdictR_spec (rs : List Rule) (rule : Int) (hr : rule < rs.length) : Spec Tryz.prog 35 [polAV rs, .d (.int .i64 rule)] [] (fun r h' => r = .d (.int .i64 (verdF rs rule)) ∧ h' = []) := by
  unfold polAV verdF
  refine Spec_of_body hT Tryz.func35 rfl rfl rfl rfl ?_
  intro E hE
  repeat (first | refine wk hT rfl rfl ?_ | refine wd hT rfl rfl rfl ?_ | refine wz hT rfl ?_ | refine AWd_nil ?_ | refine AWk_nil ?_ | refine wh hT rfl rfl rfl rfl ?_ | refine wg hT rfl rfl rfl rfl rfl ?_ | refine AW_seq ?_ | refine AW_region ?_ | refine wx mixed ?_ | refine AW_block ?_ | refine AW_skip ?_ | refine AW_exit ?_ | refine AW_ret ?_)
  refine AW_condL rfl (fun h1 => ?_) (fun h1 => ?_)
  · have h1' : rule < 0 := by simpa using h1
    rw [if_pos h1']
    repeat (first | refine wk hT rfl rfl ?_ | refine wd hT rfl rfl rfl ?_ | refine wz hT rfl ?_ | refine AWd_nil ?_ | refine AWk_nil ?_ | refine wh hT rfl rfl rfl rfl ?_ | refine wg hT rfl rfl rfl rfl rfl ?_ | refine AW_seq ?_ | refine AW_region ?_ | refine wx mixed ?_ | refine AW_block ?_ | refine AW_skip ?_ | refine AW_exit ?_ | refine AW_ret ?_)
    first | exact rx ⟨rfl, rfl⟩ | exact rxN ⟨rfl, rfl⟩ | (refine rq ⟨rfl, rfl⟩ rfl ?_; repeat (first | exact trivial | exact AV.le.refl _ | exact AV.le.dat | exact AV.le.nils | exact AV.le.nilsf | exact AV.le.any _ | exact ObLe.refl _ | exact ⟨rfl, rfl⟩ | refine AV.le.tup ?_ | refine AV.le.agg ?_ | exact li | exact lb | exact ls | exact lk | exact ld | exact lz | refine ⟨?_, ?_⟩)) | (refine rqN ⟨rfl, rfl⟩ rfl ?_; repeat (first | exact trivial | exact AV.le.refl _ | exact AV.le.dat | exact AV.le.nils | exact AV.le.nilsf | exact AV.le.any _ | exact ObLe.refl _ | exact ⟨rfl, rfl⟩ | refine AV.le.tup ?_ | refine AV.le.agg ?_ | exact li | exact lb | exact ls | exact lk | exact ld | exact lz | refine ⟨?_, ?_⟩))
  · have h1' : ¬ rule < 0 := by simpa using h1
    rw [if_neg h1']
    have hlt : rule.toNat < rs.length := by omega
    have hel : (encRs rs)[rule.toNat]? = some (encR rs[rule.toNat]) := by simp [encRs, hlt]
    rw [List.getElem?_eq_getElem hlt]
    generalize rs[rule.toNat] = r at hel
    obtain ⟨v, al, ⟨k, c, w, kids⟩⟩ := r
    repeat (first | refine wk hT rfl rfl ?_ | refine wd hT rfl rfl rfl ?_ | refine wz hT rfl ?_ | refine AWd_nil ?_ | refine AWk_nil ?_ | refine wh hT rfl rfl rfl rfl ?_ | refine wg hT rfl rfl rfl rfl rfl ?_ | refine AW_seq ?_ | refine AW_region ?_ | refine wx mixed ?_ | refine AW_block ?_ | refine AW_skip ?_ | refine AW_exit ?_ | refine AW_ret ?_)
    first | refine AWk_op (OpS_of_pure (indexAddr_ok hT rfl rfl rfl rfl (by omega) (hel))) rfl ?_ | refine AWd_op (OpS_of_pure (indexAddr_ok hT rfl rfl rfl rfl (by omega) (hel))) rfl rfl ?_
    repeat (first | refine wk hT rfl rfl ?_ | refine wd hT rfl rfl rfl ?_ | refine wz hT rfl ?_ | refine AWd_nil ?_ | refine AWk_nil ?_ | refine wh hT rfl rfl rfl rfl ?_ | refine wg hT rfl rfl rfl rfl rfl ?_ | refine AW_seq ?_ | refine AW_region ?_ | refine wx mixed ?_ | refine AW_block ?_ | refine AW_skip ?_ | refine AW_exit ?_ | refine AW_ret ?_)
    first | exact rx ⟨rfl, rfl⟩ | exact rxN ⟨rfl, rfl⟩ | (refine rq ⟨rfl, rfl⟩ rfl ?_; repeat (first | exact trivial | exact AV.le.refl _ | exact AV.le.dat | exact AV.le.nils | exact AV.le.nilsf | exact AV.le.any _ | exact ObLe.refl _ | exact ⟨rfl, rfl⟩ | refine AV.le.tup ?_ | refine AV.le.agg ?_ | exact li | exact lb | exact ls | exact lk | exact ld | exact lz | refine ⟨?_, ?_⟩)) | (refine rqN ⟨rfl, rfl⟩ rfl ?_; repeat (first | exact trivial | exact AV.le.refl _ | exact AV.le.dat | exact AV.le.nils | exact AV.le.nilsf | exact AV.le.any _ | exact ObLe.refl _ | exact ⟨rfl, rfl⟩ | refine AV.le.tup ?_ | refine AV.le.agg ?_ | exact li | exact lb | exact ls | exact lk | exact ld | exact lz | refine ⟨?_, ?_⟩))
end Tdoc
/- Proper lists of results; what explains a decision: of the program and of the reference. -/
set_option linter.unusedVariables false
set_option linter.unusedSimpArgs false
namespace Tdoc
open Go Go.Proofs

/-- What stands before a place: 0 at the first. -/
def prevC (l : List Res) (i : Nat) : Int := if i = 0 then 0 else ((l[i - 1]?).getD (0, 0)).1
theorem prevC_succ {l : List Res} {i : Nat} (h : i < l.length) : prevC l (i + 1) = l[i].1 := by simp [prevC, h]

theorem proper_step {p : Int} {i : Nat} {r : Res} {l : List Res} : properF p (r :: l) = if r.1 < 1 ∨ r.1 > 13 ∨ r.2 < 1 ∨ r.2 > 4 ∨ p ≥ r.1 then false else properF r.1 l := rfl

set_option maxHeartbeats 8000000 in
set_option maxRecDepth 100000 in
theorem proper_spec (l : List Res) (hl : l.length ≤ 1000000) : Spec Tryz.prog 25 [.d (.sl 2 (encRes l))] [] (fun r h' => r = .d (.bool (properF 0 l)) ∧ h' = []) := by
  have hlen := encRes_length l
  generalize hfin : properF 0 l = fin
  refine Spec_of_body hT Tryz.func25 rfl rfl rfl rfl ?_
  intro E hE
  repeat (first | refine wk hT rfl rfl ?_ | refine wd hT rfl rfl rfl ?_ | refine wz hT rfl ?_ | refine AWd_nil ?_ | refine AWk_nil ?_ | refine wh hT rfl rfl rfl rfl ?_ | refine wg hT rfl rfl rfl rfl rfl ?_ | refine AW_seq ?_ | refine AW_region ?_ | refine wx mixed ?_ | refine AW_block ?_ | refine AW_skip ?_ | refine AW_exit ?_ | refine AW_ret ?_)
  refine AW_loopC (ι := Nat) (fun i => [(0, .d (.sl 2 (encRes l))), (5, .d (.sl 2 (encRes l))), (6, .d (.int .i64 ((encRes l).length : Int))), (7, .d (.int .i64 (i : Int)))]) (fun _ => []) (fun i => i ≤ l.length ∧ properF (prevC l i) (l.drop i) = fin) (fun i => l.length - i) 0
    ⟨by omega, by simpa [prevC] using hfin⟩ ⟨.refl _, .refl _, .refl _, .refl _, trivial⟩ (HLe.refl _) ?_
  rintro i ⟨hi, hg⟩
  have hwr : IntKind.i64.wrap ((i : Int) + 1) = ((i + 1 : Nat) : Int) := by rw [wrap_id (by omega)]; omega
  repeat (first | refine wk hT rfl rfl ?_ | refine wd hT rfl rfl rfl ?_ | refine wz hT rfl ?_ | refine AWd_nil ?_ | refine AWk_nil ?_ | refine wh hT rfl rfl rfl rfl ?_ | refine wg hT rfl rfl rfl rfl rfl ?_ | refine AW_seq ?_ | refine AW_region ?_ | refine wx mixed ?_ | refine AW_block ?_ | refine AW_skip ?_ | refine AW_exit ?_ | refine AW_ret ?_)
  refine AW_condL rfl (fun h1 => ?_) (fun h1 => ?_)
  · have hlt : i < l.length := by rw [hlen] at h1; simpa using h1
    have hel := encRes_at hlt
    have hdrop : l.drop i = l[i] :: l.drop (i + 1) := by simp
    have hps := prevC_succ hlt
    have hp0 : prevC l i = if i = 0 then 0 else ((l[i - 1]?).getD (0, 0)).1 := rfl
    have hel2 : 0 < i → (encRes l)[(IntKind.i64.wrap ((i : Int) - 1)).toNat]? = some [.int .i64 ((l[i - 1]?).getD (0, 0)).1, .int .i64 ((l[i - 1]?).getD (0, 0)).2] := fun hpos => by
      have hlt2 : i - 1 < l.length := by omega
      rw [wrap_id (by omega), show ((i : Int) - 1).toNat = i - 1 by omega]
      simp [encRes, encRe, hlt2]
    rw [hdrop, proper_step (i := i), ← hps] at hg
    generalize hpc : prevC l (i + 1) = c at hps hg
    rw [hp0] at hg
    generalize (l[i - 1]?).getD (0, 0) = q at hg hel2
    obtain ⟨q1, q2⟩ := q
    generalize l[i] = r at hel hg hps
    obtain ⟨a, b⟩ := r
    simp only at hg hel hel2 hps
    rw [hps] at hg
    repeat (first | refine wk hT rfl rfl ?_ | refine wd hT rfl rfl rfl ?_ | refine wz hT rfl ?_ | refine AWd_nil ?_ | refine AWk_nil ?_ | refine wh hT rfl rfl rfl rfl ?_ | refine wg hT rfl rfl rfl rfl rfl ?_ | refine AW_seq ?_ | refine AW_region ?_ | refine wx mixed ?_ | refine AW_block ?_ | refine AW_skip ?_ | refine AW_exit ?_ | refine AW_ret ?_)
    first | refine AWk_op (OpS_of_pure (indexAddr_ok hT rfl rfl rfl rfl (by omega) (hel))) rfl ?_ | refine AWd_op (OpS_of_pure (indexAddr_ok hT rfl rfl rfl rfl (by omega) (hel))) rfl rfl ?_
    repeat (first | refine wk hT rfl rfl ?_ | refine wd hT rfl rfl rfl ?_ | refine wz hT rfl ?_ | refine AWd_nil ?_ | refine AWk_nil ?_ | refine wh hT rfl rfl rfl rfl ?_ | refine wg hT rfl rfl rfl rfl rfl ?_ | refine AW_seq ?_ | refine AW_region ?_ | refine wx mixed ?_ | refine AW_block ?_ | refine AW_skip ?_ | refine AW_exit ?_ | refine AW_ret ?_)
    refine AWd_gop (v := .iptr [.int .i64 q1, .int .i64 q2]) rfl rfl rfl rfl (fun hg' => ⟨by first | exact ⟨hg', hg', True.intro⟩ | exact ⟨hg', hg', hg', True.intro⟩ | exact (sg (C := True) hg').1, OpS_of_pure (indexAddr_ok hT rfl rfl rfl rfl ?_ (hel2 ?_))⟩) ?_
    · have : 0 < i := by simp [gval] at hg'; omega
      rw [wrap_id (by omega)]; omega
    · simp [gval] at hg'; omega
    repeat (first | refine wk hT rfl rfl ?_ | refine wd hT rfl rfl rfl ?_ | refine wz hT rfl ?_ | refine AWd_nil ?_ | refine AWk_nil ?_ | refine wh hT rfl rfl rfl rfl ?_ | refine wg hT rfl rfl rfl rfl rfl ?_ | refine AW_seq ?_ | refine AW_region ?_ | refine wx mixed ?_ | refine AW_block ?_ | refine AW_skip ?_ | refine AW_exit ?_ | refine AW_ret ?_)
    have hc : ((decide (a < 1) || decide (a > 13) || decide (b < 1) || decide (b > 4)) || (decide ((i : Int) > 0) && decide (q1 ≥ a))) = decide (a < 1 ∨ a > 13 ∨ b < 1 ∨ b > 4 ∨ (if i = 0 then (0 : Int) else q1) ≥ a) := by
      rw [Bool.eq_iff_iff]
      simp
      by_cases hi0 : i = 0
      · simp [hi0]; omega
      · simp [hi0]; omega
    refine AW_condL rfl (fun h2 => ?_) (fun h2 => ?_)
    · have h2' := of_decide_eq_true (hc.symm.trans h2)
      rw [if_pos h2'] at hg
      subst hg
      repeat (first | refine wk hT rfl rfl ?_ | refine wd hT rfl rfl rfl ?_ | refine wz hT rfl ?_ | refine AWd_nil ?_ | refine AWk_nil ?_ | refine wh hT rfl rfl rfl rfl ?_ | refine wg hT rfl rfl rfl rfl rfl ?_ | refine AW_seq ?_ | refine AW_region ?_ | refine wx mixed ?_ | refine AW_block ?_ | refine AW_skip ?_ | refine AW_exit ?_ | refine AW_ret ?_)
      first | exact rx ⟨rfl, rfl⟩ | exact rxN ⟨rfl, rfl⟩ | (refine rq ⟨rfl, rfl⟩ rfl ?_; repeat (first | exact trivial | exact AV.le.refl _ | exact AV.le.dat | exact AV.le.nils | exact AV.le.nilsf | exact AV.le.any _ | exact ObLe.refl _ | exact ⟨rfl, rfl⟩ | refine AV.le.tup ?_ | refine AV.le.agg ?_ | exact li | exact lb | exact ls | exact lk | exact ld | exact lz | refine ⟨?_, ?_⟩)) | (refine rqN ⟨rfl, rfl⟩ rfl ?_; repeat (first | exact trivial | exact AV.le.refl _ | exact AV.le.dat | exact AV.le.nils | exact AV.le.nilsf | exact AV.le.any _ | exact ObLe.refl _ | exact ⟨rfl, rfl⟩ | refine AV.le.tup ?_ | refine AV.le.agg ?_ | exact li | exact lb | exact ls | exact lk | exact ld | exact lz | refine ⟨?_, ?_⟩))
    · have h2' := of_decide_eq_false (hc.symm.trans h2)
      rw [if_neg h2'] at hg
      repeat (first | refine wk hT rfl rfl ?_ | refine wd hT rfl rfl rfl ?_ | refine wz hT rfl ?_ | refine AWd_nil ?_ | refine AWk_nil ?_ | refine wh hT rfl rfl rfl rfl ?_ | refine wg hT rfl rfl rfl rfl rfl ?_ | refine AW_seq ?_ | refine AW_region ?_ | refine wx mixed ?_ | refine AW_block ?_ | refine AW_skip ?_ | refine AW_exit ?_ | refine AW_ret ?_)
      exact ⟨i + 1, [_], ⟨by omega, by rw [hpc, hps]; exact hg⟩, by omega, ⟨.refl _, .refl _, .refl _, .int hwr, trivial⟩, ⟨ObLe.refl _, trivial⟩, Env.below_mono hE (by simp), rfl, rfl⟩
  · have hge : i = l.length := by rw [hlen] at h1; simp at h1; omega
    subst hge
    rw [List.drop_length, properF] at hg
    subst hg
    repeat (first | refine wk hT rfl rfl ?_ | refine wd hT rfl rfl rfl ?_ | refine wz hT rfl ?_ | refine AWd_nil ?_ | refine AWk_nil ?_ | refine wh hT rfl rfl rfl rfl ?_ | refine wg hT rfl rfl rfl rfl rfl ?_ | refine AW_seq ?_ | refine AW_region ?_ | refine wx mixed ?_ | refine AW_block ?_ | refine AW_skip ?_ | refine AW_exit ?_ | refine AW_ret ?_)
    first | exact rx ⟨rfl, rfl⟩ | exact rxN ⟨rfl, rfl⟩ | (refine rq ⟨rfl, rfl⟩ rfl ?_; repeat (first | exact trivial | exact AV.le.refl _ | exact AV.le.dat | exact AV.le.nils | exact AV.le.nilsf | exact AV.le.any _ | exact ObLe.refl _ | exact ⟨rfl, rfl⟩ | refine AV.le.tup ?_ | refine AV.le.agg ?_ | exact li | exact lb | exact ls | exact lk | exact ld | exact lz | refine ⟨?_, ?_⟩)) | (refine rqN ⟨rfl, rfl⟩ rfl ?_; repeat (first | exact trivial | exact AV.le.refl _ | exact AV.le.dat | exact AV.le.nils | exact AV.le.nilsf | exact AV.le.any _ | exact ObLe.refl _ | exact ⟨rfl, rfl⟩ | refine AV.le.tup ?_ | refine AV.le.agg ?_ | exact li | exact lb | exact ls | exact lk | exact ld | exact lz | refine ⟨?_, ?_⟩))

set_option maxHeartbeats 8000000 in
set_option maxRecDepth 100000 in
theorem properR_spec (l : List Res) (hl : l.length ≤ 1000000) : Spec Tryz.prog 32 [.d (.sl 2 (encRes l))] [] (fun r h' => r = .d (.bool (properF 0 l)) ∧ h' = []) := by
  have hlen := encRes_length l
  generalize hfin : properF 0 l = fin
  refine Spec_of_body hT Tryz.func32 rfl rfl rfl rfl ?_
  intro E hE
  repeat (first | refine wk hT rfl rfl ?_ | refine wd hT rfl rfl rfl ?_ | refine wz hT rfl ?_ | refine AWd_nil ?_ | refine AWk_nil ?_ | refine wh hT rfl rfl rfl rfl ?_ | refine wg hT rfl rfl rfl rfl rfl ?_ | refine AW_seq ?_ | refine AW_region ?_ | refine wx mixed ?_ | refine AW_block ?_ | refine AW_skip ?_ | refine AW_exit ?_ | refine AW_ret ?_)
  refine AW_loopL (ι := Nat) (fun i => [(0, .d (.sl 2 (encRes l))), (3, .d (.int .i64 (i : Int)))]) (fun _ => []) (fun i => i ≤ l.length ∧ properF (prevC l i) (l.drop i) = fin) (fun i => l.length - i) 0
    ⟨by omega, by simpa [prevC] using hfin⟩ ⟨.refl _, .refl _, trivial⟩ (HLe.refl _) ?_
  rintro i ⟨hi, hg⟩
  have hwr : IntKind.i64.wrap ((i : Int) + 1) = ((i + 1 : Nat) : Int) := by rw [wrap_id (by omega)]; omega
  repeat (first | refine wk hT rfl rfl ?_ | refine wd hT rfl rfl rfl ?_ | refine wz hT rfl ?_ | refine AWd_nil ?_ | refine AWk_nil ?_ | refine wh hT rfl rfl rfl rfl ?_ | refine wg hT rfl rfl rfl rfl rfl ?_ | refine AW_seq ?_ | refine AW_region ?_ | refine wx mixed ?_ | refine AW_block ?_ | refine AW_skip ?_ | refine AW_exit ?_ | refine AW_ret ?_)
  refine AW_condL rfl (fun h1 => ?_) (fun h1 => ?_)
  · have hlt : i < l.length := by rw [hlen] at h1; simpa using h1
    have hel := encRes_at hlt
    have hdrop : l.drop i = l[i] :: l.drop (i + 1) := by simp
    have hps := prevC_succ hlt
    have hp0 : prevC l i = if i = 0 then 0 else ((l[i - 1]?).getD (0, 0)).1 := rfl
    have hel2 : 0 < i → (encRes l)[(IntKind.i64.wrap ((i : Int) - 1)).toNat]? = some [.int .i64 ((l[i - 1]?).getD (0, 0)).1, .int .i64 ((l[i - 1]?).getD (0, 0)).2] := fun hpos => by
      have hlt2 : i - 1 < l.length := by omega
      rw [wrap_id (by omega), show ((i : Int) - 1).toNat = i - 1 by omega]
      simp [encRes, encRe, hlt2]
    rw [hdrop, proper_step (i := i), ← hps] at hg
    generalize hpc : prevC l (i + 1) = c at hps hg
    rw [hp0] at hg
    generalize (l[i - 1]?).getD (0, 0) = q at hg hel2
    obtain ⟨q1, q2⟩ := q
    generalize l[i] = r at hel hg hps
    obtain ⟨a, b⟩ := r
    simp only at hg hel hel2 hps
    rw [hps] at hg
    repeat (first | refine wk hT rfl rfl ?_ | refine wd hT rfl rfl rfl ?_ | refine wz hT rfl ?_ | refine AWd_nil ?_ | refine AWk_nil ?_ | refine wh hT rfl rfl rfl rfl ?_ | refine wg hT rfl rfl rfl rfl rfl ?_ | refine AW_seq ?_ | refine AW_region ?_ | refine wx mixed ?_ | refine AW_block ?_ | refine AW_skip ?_ | refine AW_exit ?_ | refine AW_ret ?_)
    first | refine AWk_op (OpS_of_pure (indexAddr_ok hT rfl rfl rfl rfl (by omega) (hel))) rfl ?_ | refine AWd_op (OpS_of_pure (indexAddr_ok hT rfl rfl rfl rfl (by omega) (hel))) rfl rfl ?_
    repeat (first | refine wk hT rfl rfl ?_ | refine wd hT rfl rfl rfl ?_ | refine wz hT rfl ?_ | refine AWd_nil ?_ | refine AWk_nil ?_ | refine wh hT rfl rfl rfl rfl ?_ | refine wg hT rfl rfl rfl rfl rfl ?_ | refine AW_seq ?_ | refine AW_region ?_ | refine wx mixed ?_ | refine AW_block ?_ | refine AW_skip ?_ | refine AW_exit ?_ | refine AW_ret ?_)
    refine AWd_gop rfl rfl rfl rfl (fun hg' => ⟨by first | exact ⟨hg', hg', True.intro⟩ | exact ⟨hg', hg', hg', True.intro⟩ | exact (sg (C := True) hg').1, OpS_of_pure (indexAddr_ok hT rfl rfl rfl rfl (by omega) hel)⟩) ?_
    repeat (first | refine wk hT rfl rfl ?_ | refine wd hT rfl rfl rfl ?_ | refine wz hT rfl ?_ | refine AWd_nil ?_ | refine AWk_nil ?_ | refine wh hT rfl rfl rfl rfl ?_ | refine wg hT rfl rfl rfl rfl rfl ?_ | refine AW_seq ?_ | refine AW_region ?_ | refine wx mixed ?_ | refine AW_block ?_ | refine AW_skip ?_ | refine AW_exit ?_ | refine AW_ret ?_)
    refine AWd_gop rfl rfl rfl rfl (fun hg' => ⟨by first | exact ⟨hg', hg', True.intro⟩ | exact ⟨hg', hg', hg', True.intro⟩ | exact (sg (C := True) hg').1, OpS_of_pure (indexAddr_ok hT rfl rfl rfl rfl (by omega) hel)⟩) ?_
    repeat (first | refine wk hT rfl rfl ?_ | refine wd hT rfl rfl rfl ?_ | refine wz hT rfl ?_ | refine AWd_nil ?_ | refine AWk_nil ?_ | refine wh hT rfl rfl rfl rfl ?_ | refine wg hT rfl rfl rfl rfl rfl ?_ | refine AW_seq ?_ | refine AW_region ?_ | refine wx mixed ?_ | refine AW_block ?_ | refine AW_skip ?_ | refine AW_exit ?_ | refine AW_ret ?_)
    refine AWd_gop rfl rfl rfl rfl (fun hg' => ⟨by first | exact ⟨hg', hg', True.intro⟩ | exact ⟨hg', hg', hg', True.intro⟩ | exact (sg (C := True) hg').1, OpS_of_pure (indexAddr_ok hT rfl rfl rfl rfl (by omega) hel)⟩) ?_
    repeat (first | refine wk hT rfl rfl ?_ | refine wd hT rfl rfl rfl ?_ | refine wz hT rfl ?_ | refine AWd_nil ?_ | refine AWk_nil ?_ | refine wh hT rfl rfl rfl rfl ?_ | refine wg hT rfl rfl rfl rfl rfl ?_ | refine AW_seq ?_ | refine AW_region ?_ | refine wx mixed ?_ | refine AW_block ?_ | refine AW_skip ?_ | refine AW_exit ?_ | refine AW_ret ?_)
    refine AWd_gop rfl rfl rfl rfl (fun hg' => ⟨by first | exact ⟨hg', hg', True.intro⟩ | exact ⟨hg', hg', hg', True.intro⟩ | exact (sg (C := True) hg').1, OpS_of_pure (indexAddr_ok hT rfl rfl rfl rfl (by omega) hel)⟩) ?_
    repeat (first | refine wk hT rfl rfl ?_ | refine wd hT rfl rfl rfl ?_ | refine wz hT rfl ?_ | refine AWd_nil ?_ | refine AWk_nil ?_ | refine wh hT rfl rfl rfl rfl ?_ | refine wg hT rfl rfl rfl rfl rfl ?_ | refine AW_seq ?_ | refine AW_region ?_ | refine wx mixed ?_ | refine AW_block ?_ | refine AW_skip ?_ | refine AW_exit ?_ | refine AW_ret ?_)
    refine AWd_gop (v := .iptr [.int .i64 q1, .int .i64 q2]) rfl rfl rfl rfl (fun hg' => ⟨by first | exact ⟨hg', hg', True.intro⟩ | exact ⟨hg', hg', hg', True.intro⟩ | exact (sg (C := True) hg').1, OpS_of_pure (indexAddr_ok hT rfl rfl rfl rfl ?_ (hel2 ?_))⟩) ?_
    · have : 0 < i := by simp [gval] at hg'; omega
      rw [wrap_id (by omega)]; omega
    · simp [gval] at hg'; omega
    repeat (first | refine wk hT rfl rfl ?_ | refine wd hT rfl rfl rfl ?_ | refine wz hT rfl ?_ | refine AWd_nil ?_ | refine AWk_nil ?_ | refine wh hT rfl rfl rfl rfl ?_ | refine wg hT rfl rfl rfl rfl rfl ?_ | refine AW_seq ?_ | refine AW_region ?_ | refine wx mixed ?_ | refine AW_block ?_ | refine AW_skip ?_ | refine AW_exit ?_ | refine AW_ret ?_)
    have hc : ((decide (a < 1) || decide (a > 13) || decide (b < 1) || decide (b > 4)) || (decide ((i : Int) > 0) && decide (a ≤ q1))) = decide (a < 1 ∨ a > 13 ∨ b < 1 ∨ b > 4 ∨ (if i = 0 then (0 : Int) else q1) ≥ a) := by
      rw [Bool.eq_iff_iff]
      simp
      by_cases hi0 : i = 0
      · simp [hi0]; omega
      · simp [hi0]; omega
    refine AW_condL rfl (fun h2 => ?_) (fun h2 => ?_)
    · have h2' := of_decide_eq_true (hc.symm.trans h2)
      rw [if_pos h2'] at hg
      subst hg
      repeat (first | refine wk hT rfl rfl ?_ | refine wd hT rfl rfl rfl ?_ | refine wz hT rfl ?_ | refine AWd_nil ?_ | refine AWk_nil ?_ | refine wh hT rfl rfl rfl rfl ?_ | refine wg hT rfl rfl rfl rfl rfl ?_ | refine AW_seq ?_ | refine AW_region ?_ | refine wx mixed ?_ | refine AW_block ?_ | refine AW_skip ?_ | refine AW_exit ?_ | refine AW_ret ?_)
      first | exact rx ⟨rfl, rfl⟩ | exact rxN ⟨rfl, rfl⟩ | (refine rq ⟨rfl, rfl⟩ rfl ?_; repeat (first | exact trivial | exact AV.le.refl _ | exact AV.le.dat | exact AV.le.nils | exact AV.le.nilsf | exact AV.le.any _ | exact ObLe.refl _ | exact ⟨rfl, rfl⟩ | refine AV.le.tup ?_ | refine AV.le.agg ?_ | exact li | exact lb | exact ls | exact lk | exact ld | exact lz | refine ⟨?_, ?_⟩)) | (refine rqN ⟨rfl, rfl⟩ rfl ?_; repeat (first | exact trivial | exact AV.le.refl _ | exact AV.le.dat | exact AV.le.nils | exact AV.le.nilsf | exact AV.le.any _ | exact ObLe.refl _ | exact ⟨rfl, rfl⟩ | refine AV.le.tup ?_ | refine AV.le.agg ?_ | exact li | exact lb | exact ls | exact lk | exact ld | exact lz | refine ⟨?_, ?_⟩))
    · have h2' := of_decide_eq_false (hc.symm.trans h2)
      rw [if_neg h2'] at hg
      repeat (first | refine wk hT rfl rfl ?_ | refine wd hT rfl rfl rfl ?_ | refine wz hT rfl ?_ | refine AWd_nil ?_ | refine AWk_nil ?_ | refine wh hT rfl rfl rfl rfl ?_ | refine wg hT rfl rfl rfl rfl rfl ?_ | refine AW_seq ?_ | refine AW_region ?_ | refine wx mixed ?_ | refine AW_block ?_ | refine AW_skip ?_ | refine AW_exit ?_ | refine AW_ret ?_)
      exact ⟨i + 1, ⟨by omega, by rw [hpc, hps]; exact hg⟩, by omega, ⟨.refl _, .int hwr, trivial⟩, HLe.refl _⟩
  · have hge : i = l.length := by rw [hlen] at h1; simp at h1; omega
    subst hge
    rw [List.drop_length, properF] at hg
    subst hg
    repeat (first | refine wk hT rfl rfl ?_ | refine wd hT rfl rfl rfl ?_ | refine wz hT rfl ?_ | refine AWd_nil ?_ | refine AWk_nil ?_ | refine wh hT rfl rfl rfl rfl ?_ | refine wg hT rfl rfl rfl rfl rfl ?_ | refine AW_seq ?_ | refine AW_region ?_ | refine wx mixed ?_ | refine AW_block ?_ | refine AW_skip ?_ | refine AW_exit ?_ | refine AW_ret ?_)
    first | exact rx ⟨rfl, rfl⟩ | exact rxN ⟨rfl, rfl⟩ | (refine rq ⟨rfl, rfl⟩ rfl ?_; repeat (first | exact trivial | exact AV.le.refl _ | exact AV.le.dat | exact AV.le.nils | exact AV.le.nilsf | exact AV.le.any _ | exact ObLe.refl _ | exact ⟨rfl, rfl⟩ | refine AV.le.tup ?_ | refine AV.le.agg ?_ | exact li | exact lb | exact ls | exact lk | exact ld | exact lz | refine ⟨?_, ?_⟩)) | (refine rqN ⟨rfl, rfl⟩ rfl ?_; repeat (first | exact trivial | exact AV.le.refl _ | exact AV.le.dat | exact AV.le.nils | exact AV.le.nilsf | exact AV.le.any _ | exact ObLe.refl _ | exact ⟨rfl, rfl⟩ | refine AV.le.tup ?_ | refine AV.le.agg ?_ | exact li | exact lb | exact ls | exact lk | exact ld | exact lz | refine ⟨?_, ?_⟩))

/-- A decision. -/
structure Decn where
  v : Int
  rule : Int
  rs : List Res
def decCells (d : Decn) : List AV := [.d (.int .i64 d.v), .d (.int .i64 d.rule), .d (.sl 2 (encRes d.rs))]
def decAV (d : Decn) : AV := .agg (decCells d)

theorem fR_range (l : List Res) (r : Rule) : fR l r = 0 ∨ fR l r = 1 ∨ fR l r = 2 := by
  obtain ⟨v, al, c⟩ := r
  rw [fR_mk]
  split
  · omega
  · unfold forcedP
    split
    · have := forcedF_range l 8 c; omega
    · omega
theorem forceF_range (l : List Res) : ∀ (rs : List Rule) (i : Int), forceF l i rs = -1 ∨ forceF l i rs = -2 ∨ (i ≤ forceF l i rs ∧ forceF l i rs < i + rs.length)
  | [], i => by simp [forceF]
  | r :: rs, i => by
    have := forceF_range l rs (i + 1)
    rw [forceF, List.length_cons]
    split
    · omega
    · split
      · omega
      · omega
theorem forcesF_eq (l : List Res) (rule : Int) (hr : -1 ≤ rule) : ∀ (rs : List Rule) (i : Int), 0 ≤ i → forcesF l rule i rs = decide (forceF l i rs = rule)
  | [], i, h0 => by rw [forcesF, forceF, Bool.eq_iff_iff]; simp; omega
  | r :: rs, i, h0 => by
    have ih := forcesF_eq l rule hr rs (i + 1) (by omega)
    have hrg := forceF_range l rs (i + 1)
    rw [forcesF, forceF]
    by_cases he : i = rule
    · rw [if_pos he]
      rcases fR_range l r with h | h | h
      · rw [h]; simp; omega
      · rw [h]; simp [he]
      · rw [h]; simp; omega
    · rw [if_neg he]
      rcases fR_range l r with h | h | h
      · rw [h]; simp; omega
      · rw [h]; simp [he]
      · rw [h, ih]; simp

def explF (rs : List Rule) (d : Decn) : Bool := decide (validPol rs = 0) && properF 0 d.rs && decide (-1 ≤ d.rule) && decide (forceF d.rs 0 rs = d.rule) && decide (d.v = verdF rs d.rule)

set_option maxHeartbeats 8000000 in
set_option maxRecDepth 100000 in
theorem Explains_spec (rs : List Rule) (d : Decn) (hl : d.rs.length ≤ 1000000) (hrs : rs.length ≤ 1000000) (hs : ∀ r, r ∈ rs → smallC (condR r)) :
    Spec Tryz.prog 13 [polAV rs, decAV d] [] (fun r h' => r = .d (.bool (explF rs d)) ∧ h' = []) := by
  obtain ⟨v, rule, l⟩ := d
  have hv := Valid_spec rs hs
  have hp := proper_spec l hl
  have hf := force_spec rs l hl hrs hs
  have hrg := forceF_range l rs 0
  have hvd := fun h => verdict_spec rs rule h
  unfold explF decAV decCells
  unfold polAV at hv hf hvd ⊢
  simp only at hl ⊢
  generalize validPol rs = e at hv
  generalize properF 0 l = pb at hp
  generalize forceF l 0 rs = fv at hf hrg
  generalize verdF rs rule = vd at hvd
  refine Spec_of_body hT Tryz.func13 rfl rfl rfl rfl ?_
  intro E hE
  repeat (first | refine wk hT rfl rfl ?_ | refine wd hT rfl rfl rfl ?_ | refine wz hT rfl ?_ | refine AWd_nil ?_ | refine AWk_nil ?_ | refine wh hT rfl rfl rfl rfl ?_ | refine wg hT rfl rfl rfl rfl rfl ?_ | refine AW_seq ?_ | refine AW_region ?_ | refine wx mixed ?_ | refine AW_block ?_ | refine AW_skip ?_ | refine AW_exit ?_ | refine AW_ret ?_)
  first | refine AWk_op (callS0 rfl rfl (hv) rfl rfl rfl) rfl ?_ | refine AWd_op (callS0 rfl rfl (hv) rfl rfl rfl) rfl rfl ?_ | refine AWk_op (callS0L rfl rfl (hv) rfl (by repeat (first | exact trivial | exact AV.le.refl _ | exact AV.le.dat | exact AV.le.nils | exact AV.le.nilsf | exact AV.le.any _ | exact ObLe.refl _ | exact ⟨rfl, rfl⟩ | refine AV.le.tup ?_ | refine AV.le.agg ?_ | exact li | exact lb | exact ls | exact lk | exact ld | exact lz | refine ⟨?_, ?_⟩)) rfl rfl) rfl ?_ | refine AWd_op (callS0L rfl rfl (hv) rfl (by repeat (first | exact trivial | exact AV.le.refl _ | exact AV.le.dat | exact AV.le.nils | exact AV.le.nilsf | exact AV.le.any _ | exact ObLe.refl _ | exact ⟨rfl, rfl⟩ | refine AV.le.tup ?_ | refine AV.le.agg ?_ | exact li | exact lb | exact ls | exact lk | exact ld | exact lz | refine ⟨?_, ?_⟩)) rfl rfl) rfl rfl ?_
  repeat (first | refine wk hT rfl rfl ?_ | refine wd hT rfl rfl rfl ?_ | refine wz hT rfl ?_ | refine AWd_nil ?_ | refine AWk_nil ?_ | refine wh hT rfl rfl rfl rfl ?_ | refine wg hT rfl rfl rfl rfl rfl ?_ | refine AW_seq ?_ | refine AW_region ?_ | refine wx mixed ?_ | refine AW_block ?_ | refine AW_skip ?_ | refine AW_exit ?_ | refine AW_ret ?_)
  refine AWd_gop rfl rfl rfl rfl (fun hg' => ⟨by first | exact ⟨hg', True.intro⟩ | exact (sg (C := True) hg').1, callS0 rfl rfl hp rfl rfl rfl⟩) ?_
  repeat (first | refine wk hT rfl rfl ?_ | refine wd hT rfl rfl rfl ?_ | refine wz hT rfl ?_ | refine AWd_nil ?_ | refine AWk_nil ?_ | refine wh hT rfl rfl rfl rfl ?_ | refine wg hT rfl rfl rfl rfl rfl ?_ | refine AW_seq ?_ | refine AW_region ?_ | refine wx mixed ?_ | refine AW_block ?_ | refine AW_skip ?_ | refine AW_exit ?_ | refine AW_ret ?_)
  refine AWd_gop rfl rfl rfl rfl (fun hg' => ⟨by first | exact ⟨hg', hg', True.intro⟩ | exact ⟨hg', hg', hg', True.intro⟩ | exact (sg (C := True) hg').1, callS0 rfl rfl hf rfl rfl rfl⟩) ?_
  repeat (first | refine wk hT rfl rfl ?_ | refine wd hT rfl rfl rfl ?_ | refine wz hT rfl ?_ | refine AWd_nil ?_ | refine AWk_nil ?_ | refine wh hT rfl rfl rfl rfl ?_ | refine wg hT rfl rfl rfl rfl rfl ?_ | refine AW_seq ?_ | refine AW_region ?_ | refine wx mixed ?_ | refine AW_block ?_ | refine AW_skip ?_ | refine AW_exit ?_ | refine AW_ret ?_)
  refine AWd_gop rfl rfl rfl rfl (fun hg' => ⟨by first | exact ⟨hg', hg', True.intro⟩ | exact ⟨hg', hg', hg', True.intro⟩ | exact (sg (C := True) hg').1, callS0 rfl rfl (hvd ?_) rfl rfl rfl⟩) ?_
  · simp [gval] at hg'; omega
  repeat (first | refine wk hT rfl rfl ?_ | refine wd hT rfl rfl rfl ?_ | refine wz hT rfl ?_ | refine AWd_nil ?_ | refine AWk_nil ?_ | refine wh hT rfl rfl rfl rfl ?_ | refine wg hT rfl rfl rfl rfl rfl ?_ | refine AW_seq ?_ | refine AW_region ?_ | refine wx mixed ?_ | refine AW_block ?_ | refine AW_skip ?_ | refine AW_exit ?_ | refine AW_ret ?_)
  refine rq ⟨rfl, rfl⟩ rfl (.bool ?_)
  rw [Bool.eq_iff_iff]
  simp

set_option maxHeartbeats 8000000 in
set_option maxRecDepth 100000 in
theorem ExplainsR_spec (rs : List Rule) (d : Decn) (hl : d.rs.length ≤ 1000000) (hrs : rs.length ≤ 1000000) (hs : ∀ r, r ∈ rs → smallC (condR r)) :
    Spec Tryz.prog 15 [polAV rs, decAV d] [] (fun r h' => r = .d (.bool (explF rs d)) ∧ h' = []) := by
  obtain ⟨v, rule, l⟩ := d
  have hv := ValidR_spec rs hs
  have hp := properR_spec l hl
  have hf := forces_spec rs l rule hl hrs hs
  have hfe := fun h => forcesF_eq l rule h rs 0 (by omega)
  have hrg := forceF_range l rs 0
  have hvd := fun h => verdictR_spec rs rule h
  have hlen := encRs_length rs
  unfold explF decAV decCells
  unfold polAV at hv hf hvd ⊢
  simp only at hl ⊢
  generalize validPol rs = e at hv
  generalize properF 0 l = pb at hp
  generalize forceF l 0 rs = fv at hfe hrg
  generalize forcesF l rule 0 rs = fb at hf hfe
  generalize verdF rs rule = vd at hvd
  refine Spec_of_body hT Tryz.func15 rfl rfl rfl rfl ?_
  intro E hE
  repeat (first | refine wk hT rfl rfl ?_ | refine wd hT rfl rfl rfl ?_ | refine wz hT rfl ?_ | refine AWd_nil ?_ | refine AWk_nil ?_ | refine wh hT rfl rfl rfl rfl ?_ | refine wg hT rfl rfl rfl rfl rfl ?_ | refine AW_seq ?_ | refine AW_region ?_ | refine wx mixed ?_ | refine AW_block ?_ | refine AW_skip ?_ | refine AW_exit ?_ | refine AW_ret ?_)
  first | refine AWk_op (callS0 rfl rfl (hv) rfl rfl rfl) rfl ?_ | refine AWd_op (callS0 rfl rfl (hv) rfl rfl rfl) rfl rfl ?_ | refine AWk_op (callS0L rfl rfl (hv) rfl (by repeat (first | exact trivial | exact AV.le.refl _ | exact AV.le.dat | exact AV.le.nils | exact AV.le.nilsf | exact AV.le.any _ | exact ObLe.refl _ | exact ⟨rfl, rfl⟩ | refine AV.le.tup ?_ | refine AV.le.agg ?_ | exact li | exact lb | exact ls | exact lk | exact ld | exact lz | refine ⟨?_, ?_⟩)) rfl rfl) rfl ?_ | refine AWd_op (callS0L rfl rfl (hv) rfl (by repeat (first | exact trivial | exact AV.le.refl _ | exact AV.le.dat | exact AV.le.nils | exact AV.le.nilsf | exact AV.le.any _ | exact ObLe.refl _ | exact ⟨rfl, rfl⟩ | refine AV.le.tup ?_ | refine AV.le.agg ?_ | exact li | exact lb | exact ls | exact lk | exact ld | exact lz | refine ⟨?_, ?_⟩)) rfl rfl) rfl rfl ?_
  repeat (first | refine wk hT rfl rfl ?_ | refine wd hT rfl rfl rfl ?_ | refine wz hT rfl ?_ | refine AWd_nil ?_ | refine AWk_nil ?_ | refine wh hT rfl rfl rfl rfl ?_ | refine wg hT rfl rfl rfl rfl rfl ?_ | refine AW_seq ?_ | refine AW_region ?_ | refine wx mixed ?_ | refine AW_block ?_ | refine AW_skip ?_ | refine AW_exit ?_ | refine AW_ret ?_)
  refine AWd_gop rfl rfl rfl rfl (fun hg' => ⟨by first | exact ⟨hg', True.intro⟩ | exact (sg (C := True) hg').1, callS0 rfl rfl hp rfl rfl rfl⟩) ?_
  repeat (first | refine wk hT rfl rfl ?_ | refine wd hT rfl rfl rfl ?_ | refine wz hT rfl ?_ | refine AWd_nil ?_ | refine AWk_nil ?_ | refine wh hT rfl rfl rfl rfl ?_ | refine wg hT rfl rfl rfl rfl rfl ?_ | refine AW_seq ?_ | refine AW_region ?_ | refine wx mixed ?_ | refine AW_block ?_ | refine AW_skip ?_ | refine AW_exit ?_ | refine AW_ret ?_)
  refine AWd_gop rfl rfl rfl rfl (fun hg' => ⟨by first | exact ⟨hg', hg', True.intro⟩ | exact ⟨hg', hg', hg', True.intro⟩ | exact (sg (C := True) hg').1, callS0 rfl rfl hf rfl rfl rfl⟩) ?_
  repeat (first | refine wk hT rfl rfl ?_ | refine wd hT rfl rfl rfl ?_ | refine wz hT rfl ?_ | refine AWd_nil ?_ | refine AWk_nil ?_ | refine wh hT rfl rfl rfl rfl ?_ | refine wg hT rfl rfl rfl rfl rfl ?_ | refine AW_seq ?_ | refine AW_region ?_ | refine wx mixed ?_ | refine AW_block ?_ | refine AW_skip ?_ | refine AW_exit ?_ | refine AW_ret ?_)
  refine AWd_gop rfl rfl rfl rfl (fun hg' => ⟨by first | exact ⟨hg', hg', True.intro⟩ | exact ⟨hg', hg', hg', True.intro⟩ | exact (sg (C := True) hg').1, callS0 rfl rfl (hvd ?_) rfl rfl rfl⟩) ?_
  · rw [hlen] at hg'; simp [gval] at hg'; omega
  repeat (first | refine wk hT rfl rfl ?_ | refine wd hT rfl rfl rfl ?_ | refine wz hT rfl ?_ | refine AWd_nil ?_ | refine AWk_nil ?_ | refine wh hT rfl rfl rfl rfl ?_ | refine wg hT rfl rfl rfl rfl rfl ?_ | refine AW_seq ?_ | refine AW_region ?_ | refine wx mixed ?_ | refine AW_block ?_ | refine AW_skip ?_ | refine AW_exit ?_ | refine AW_ret ?_)
  refine rq ⟨rfl, rfl⟩ rfl (.bool ?_)
  rw [hlen, Bool.eq_iff_iff]
  by_cases hr : -1 ≤ rule
  · rw [hfe hr]
    simp only [Bool.and_eq_true, decide_eq_true_eq, beq_iff_eq]
    constructor
    · rintro ⟨⟨⟨⟨⟨a1, a2⟩, a3⟩, a4⟩, a5⟩, a6⟩
      exact ⟨⟨⟨⟨a1, a4⟩, hr⟩, a5⟩, a6⟩
    · rintro ⟨⟨⟨⟨a1, a2⟩, a3⟩, a4⟩, a5⟩
      exact ⟨⟨⟨⟨⟨a1, hr⟩, by omega⟩, a2⟩, a4⟩, a5⟩
  · simp only [Bool.and_eq_true, decide_eq_true_eq, beq_iff_eq]
    constructor
    · rintro ⟨⟨⟨⟨⟨a1, a2⟩, a3⟩, a4⟩, a5⟩, a6⟩
      exact absurd a2 hr
    · rintro ⟨⟨⟨⟨a1, a2⟩, a3⟩, a4⟩, a5⟩
      exact absurd a3 hr
end Tdoc
/- Lists of results: cloned, one left out. -/
set_option linter.unusedVariables false
set_option linter.unusedSimpArgs false
namespace Tdoc
open Go Go.Proofs

theorem setRun_eq (cs new : List AV) (off : Nat) (h : off + new.length ≤ cs.length) : setRun cs off new = cs.take off ++ new ++ cs.drop (off + new.length) := by
  apply List.ext_getElem?
  intro j
  rw [setRun_at new cs off j h]
  by_cases h1 : j < off
  · rw [if_neg (by omega), List.append_assoc, List.getElem?_append_left (by rw [List.length_take]; omega), List.getElem?_take, if_pos h1]
  · by_cases h2 : j < off + new.length
    · rw [if_pos ⟨by omega, h2⟩, List.append_assoc, List.getElem?_append_right (by rw [List.length_take]; omega), List.length_take, Nat.min_eq_left (by omega), List.getElem?_append_left (by omega)]
    · rw [if_neg (by omega), List.getElem?_append_right (by rw [List.length_append, List.length_take]; omega), List.length_append, List.length_take, Nat.min_eq_left (by omega), List.getElem?_drop]
      congr 1; omega

def rowR (l : List Res) : List AV := flatAV (encRes l)
theorem rowR_cons (r : Res) (l : List Res) : rowR (r :: l) = [.d (.int .i64 r.1), .d (.int .i64 r.2)] ++ rowR l := rfl
theorem rowR_append (a b : List Res) : rowR (a ++ b) = rowR a ++ rowR b := by simp [rowR, flatAV, encRes]
theorem rowR_length : ∀ (l : List Res), (rowR l).length = 2 * l.length
  | [] => rfl
  | r :: l => by rw [rowR_cons, List.length_append, rowR_length l, List.length_cons]; simp; omega
theorem rowR_take : ∀ (l : List Res) (i : Nat), (rowR l).take (i * 2) = rowR (l.take i)
  | [], i => by simp [rowR, flatAV, encRes]
  | r :: l, 0 => by simp [rowR, flatAV, encRes]
  | r :: l, i + 1 => by
    rw [rowR_cons, List.take_succ_cons, rowR_cons, ← rowR_take l i, show (i + 1) * 2 = i * 2 + 2 by omega]
    rfl
theorem rowR_drop : ∀ (l : List Res) (i : Nat), (rowR l).drop (i * 2) = rowR (l.drop i)
  | [], i => by simp [rowR, flatAV, encRes]
  | r :: l, 0 => by simp [rowR, flatAV, encRes]
  | r :: l, i + 1 => by
    rw [rowR_cons, List.drop_succ_cons, ← rowR_drop l i, show (i + 1) * 2 = i * 2 + 2 by omega]
    rfl
theorem lowL_row (k : Nat) (l : List Res) : lowL k (rowR l) = true := lowL_d _
theorem RowDat_row (l : List Res) (rest : List AV) : RowDat (rowR l ++ rest) 0 2 (encRes l) := by
  refine ⟨fun e he => ?_, fun i e j d he hd => ?_⟩
  · simp only [encRes, List.mem_map] at he
    obtain ⟨b, _, rfl⟩ := he; rfl
  · have hlt : i < l.length := by have := (List.getElem?_eq_some_iff.1 he).1; simpa [encRes] using this
    have hsp : rowR l = rowR (l.take i) ++ ([.d (.int .i64 l[i].1), .d (.int .i64 l[i].2)] ++ rowR (l.drop (i + 1))) := by
      rw [← rowR_cons, ← rowR_append]; congr 1; simp
    have hl2 := rowR_length (l.take i)
    rw [List.length_take, Nat.min_eq_left (by omega)] at hl2
    have he' : e = [.int .i64 l[i].1, .int .i64 l[i].2] := by
      simp only [encRes, List.getElem?_map, List.getElem?_eq_getElem hlt, Option.map_some, Option.some.injEq] at he
      exact he.symm
    subst he'
    rw [hsp]
    match j, hd with
    | 0, hd => simp at hd; subst hd; exact ⟨.d (.int .i64 l[i].1), by rw [List.append_assoc, List.getElem?_append_right (by omega)]; simp [hl2]; rw [show i * 2 - 2 * i = 0 by omega]; rfl, rfl⟩
    | 1, hd => simp at hd; subst hd; exact ⟨.d (.int .i64 l[i].2), by rw [List.append_assoc, List.getElem?_append_right (by omega)]; simp [hl2]; rw [show i * 2 + 1 - 2 * i = 1 by omega]; rfl, rfl⟩
    | j + 2, hd => simp at hd

set_option maxHeartbeats 8000000 in
set_option maxRecDepth 100000 in
theorem CloneS_spec (l : List Res) (hl : l.length ≤ 1000000) : Spec Tryz.prog 28 [.d (.sl 2 (encRes l))] [] (fun r h' => r = .d (.sl 2 (encRes l)) ∧ h' = []) := by
  have hlen := encRes_length l
  generalize hes : encRes l = es at hlen
  refine Spec_of_body hT Tryz.func28 rfl rfl rfl rfl ?_
  intro E hE
  repeat (first | refine wk hT rfl rfl ?_ | refine wd hT rfl rfl rfl ?_ | refine wz hT rfl ?_ | refine AWd_nil ?_ | refine AWk_nil ?_ | refine wh hT rfl rfl rfl rfl ?_ | refine wg hT rfl rfl rfl rfl rfl ?_ | refine AW_seq ?_ | refine AW_region ?_ | refine wx mixed ?_ | refine AW_block ?_ | refine AW_skip ?_ | refine AW_exit ?_ | refine AW_ret ?_)
  refine AWk_opR (eqNil_ok hT (fun _ => rfl) rfl rfl rfl) rfl ?_
  rintro v h' ⟨rfl, b, rfl, hb⟩
  repeat (first | refine wk hT rfl rfl ?_ | refine wd hT rfl rfl rfl ?_ | refine wz hT rfl ?_ | refine AWd_nil ?_ | refine AWk_nil ?_ | refine wh hT rfl rfl rfl rfl ?_ | refine wg hT rfl rfl rfl rfl rfl ?_ | refine AW_seq ?_ | refine AW_region ?_ | refine wx mixed ?_ | refine AW_block ?_ | refine AW_skip ?_ | refine AW_exit ?_ | refine AW_ret ?_)
  refine AW_condL rfl (fun h1 => ?_) (fun h1 => ?_)
  · obtain rfl := hb h1
    repeat (first | refine wk hT rfl rfl ?_ | refine wd hT rfl rfl rfl ?_ | refine wz hT rfl ?_ | refine AWd_nil ?_ | refine AWk_nil ?_ | refine wh hT rfl rfl rfl rfl ?_ | refine wg hT rfl rfl rfl rfl rfl ?_ | refine AW_seq ?_ | refine AW_region ?_ | refine wx mixed ?_ | refine AW_block ?_ | refine AW_skip ?_ | refine AW_exit ?_ | refine AW_ret ?_)
    first | exact rx ⟨rfl, rfl⟩ | exact rxN ⟨rfl, rfl⟩ | (refine rq ⟨rfl, rfl⟩ rfl ?_; repeat (first | exact trivial | exact AV.le.refl _ | exact AV.le.dat | exact AV.le.nils | exact AV.le.nilsf | exact AV.le.any _ | exact ObLe.refl _ | exact ⟨rfl, rfl⟩ | refine AV.le.tup ?_ | refine AV.le.agg ?_ | exact li | exact lb | exact ls | exact lk | exact ld | exact lz | refine ⟨?_, ?_⟩)) | (refine rqN ⟨rfl, rfl⟩ rfl ?_; repeat (first | exact trivial | exact AV.le.refl _ | exact AV.le.dat | exact AV.le.nils | exact AV.le.nilsf | exact AV.le.any _ | exact ObLe.refl _ | exact ⟨rfl, rfl⟩ | refine AV.le.tup ?_ | refine AV.le.agg ?_ | exact li | exact lb | exact ls | exact lk | exact ld | exact lz | refine ⟨?_, ?_⟩))
  · repeat (first | refine wk hT rfl rfl ?_ | refine wd hT rfl rfl rfl ?_ | refine wz hT rfl ?_ | refine AWd_nil ?_ | refine AWk_nil ?_ | refine wh hT rfl rfl rfl rfl ?_ | refine wg hT rfl rfl rfl rfl rfl ?_ | refine AW_seq ?_ | refine AW_region ?_ | refine wx mixed ?_ | refine AW_block ?_ | refine AW_skip ?_ | refine AW_exit ?_ | refine AW_ret ?_)
    refine AWk_op (append_full (es := []) hT rfl rfl rfl (.inl rfl) rfl (by show (([] : List (List Dat)).length + es.length) * (16 + 1) ≤ 140737488355328; simp; omega)) rfl ?_
    repeat (first | refine wk hT rfl rfl ?_ | refine wd hT rfl rfl rfl ?_ | refine wz hT rfl ?_ | refine AWd_nil ?_ | refine AWk_nil ?_ | refine wh hT rfl rfl rfl rfl ?_ | refine wg hT rfl rfl rfl rfl rfl ?_ | refine AW_seq ?_ | refine AW_region ?_ | refine wx mixed ?_ | refine AW_block ?_ | refine AW_skip ?_ | refine AW_exit ?_ | refine AW_ret ?_)
    first | exact rx ⟨rfl, rfl⟩ | exact rxN ⟨rfl, rfl⟩ | (refine rq ⟨rfl, rfl⟩ rfl ?_; repeat (first | exact trivial | exact AV.le.refl _ | exact AV.le.dat | exact AV.le.nils | exact AV.le.nilsf | exact AV.le.any _ | exact ObLe.refl _ | exact ⟨rfl, rfl⟩ | refine AV.le.tup ?_ | refine AV.le.agg ?_ | exact li | exact lb | exact ls | exact lk | exact ld | exact lz | refine ⟨?_, ?_⟩)) | (refine rqN ⟨rfl, rfl⟩ rfl ?_; repeat (first | exact trivial | exact AV.le.refl _ | exact AV.le.dat | exact AV.le.nils | exact AV.le.nilsf | exact AV.le.any _ | exact ObLe.refl _ | exact ⟨rfl, rfl⟩ | refine AV.le.tup ?_ | refine AV.le.agg ?_ | exact li | exact lb | exact ls | exact lk | exact ld | exact lz | refine ⟨?_, ?_⟩))

set_option maxHeartbeats 8000000 in
set_option maxRecDepth 100000 in
theorem CloneRow_spec (l : List Res) (hl : l.length ≤ 1000000) (hne : l ≠ []) : Spec Tryz.prog 28 [.d (.sl 2 (encRes l))] [.room] (fun r h' => ∃ cap : Nat, l.length ≤ cap ∧ r = .row 0 0 l.length cap ∧ h' = [.row (rowR l)]) := by
  have hlen := encRes_length l
  unfold rowR
  rw [← hlen]
  have hne2 : encRes l ≠ [] := by intro hh; rw [hh] at hlen; exact hne (List.eq_nil_of_length_eq_zero hlen.symm)
  generalize hes : encRes l = es at hlen hne2
  refine Spec_of_body hT Tryz.func28 rfl rfl rfl rfl ?_
  intro E hE
  repeat (first | refine wk hT rfl rfl ?_ | refine wd hT rfl rfl rfl ?_ | refine wz hT rfl ?_ | refine AWd_nil ?_ | refine AWk_nil ?_ | refine wh hT rfl rfl rfl rfl ?_ | refine wg hT rfl rfl rfl rfl rfl ?_ | refine AW_seq ?_ | refine AW_region ?_ | refine wx mixed ?_ | refine AW_block ?_ | refine AW_skip ?_ | refine AW_exit ?_ | refine AW_ret ?_)
  refine AWk_opR (eqNil_ok hT (fun _ => rfl) rfl rfl rfl) rfl ?_
  rintro v h' ⟨rfl, b, rfl, hb⟩
  repeat (first | refine wk hT rfl rfl ?_ | refine wd hT rfl rfl rfl ?_ | refine wz hT rfl ?_ | refine AWd_nil ?_ | refine AWk_nil ?_ | refine wh hT rfl rfl rfl rfl ?_ | refine wg hT rfl rfl rfl rfl rfl ?_ | refine AW_seq ?_ | refine AW_region ?_ | refine wx mixed ?_ | refine AW_block ?_ | refine AW_skip ?_ | refine AW_exit ?_ | refine AW_ret ?_)
  refine AW_condL rfl (fun h1 => ?_) (fun h1 => ?_)
  · exact absurd (hb h1) hne2
  · repeat (first | refine wk hT rfl rfl ?_ | refine wd hT rfl rfl rfl ?_ | refine wz hT rfl ?_ | refine AWd_nil ?_ | refine AWk_nil ?_ | refine wh hT rfl rfl rfl rfl ?_ | refine wg hT rfl rfl rfl rfl rfl ?_ | refine AW_seq ?_ | refine AW_region ?_ | refine wx mixed ?_ | refine AW_block ?_ | refine AW_skip ?_ | refine AW_exit ?_ | refine AW_ret ?_)
    refine AWk_opX (appFresh_ok (i0 := 0) hT rfl rfl rfl (.inl rfl) rfl hne2 (by show es.length * (16 + 1) ≤ 140737488355328; omega) rfl) rfl ?_
    intro cap hcap
    repeat (first | refine wk hT rfl rfl ?_ | refine wd hT rfl rfl rfl ?_ | refine wz hT rfl ?_ | refine AWd_nil ?_ | refine AWk_nil ?_ | refine wh hT rfl rfl rfl rfl ?_ | refine wg hT rfl rfl rfl rfl rfl ?_ | refine AW_seq ?_ | refine AW_region ?_ | refine wx mixed ?_ | refine AW_block ?_ | refine AW_skip ?_ | refine AW_exit ?_ | refine AW_ret ?_)
    exact rq (r := .row 0 0 es.length cap) ⟨cap, hcap, rfl, rfl⟩ rfl (.refl _) (h6 := (Bool.and_true _).trans (lowL_d _))

/-- What is left behind the end. -/
def restR : List AV := [.d (.int .i64 0), .d (.int .i64 0)]
theorem lowL_rest (k : Nat) (l : List Res) : lowL k (rowR l ++ restR) = true := by
  have : rowR l ++ restR = ((encRes l).flatten ++ [Dat.int .i64 0, Dat.int .i64 0]).map AV.d := by simp [rowR, flatAV, restR]
  rw [this]; exact lowL_d _

theorem del_row {l : List Res} {i : Nat} (h : i < l.length) : setRun (rowR l) (i * 2) (((rowR l).drop ((i + 1) * 2)).take ((l.length - (i + 1)) * 2)) = rowR (l.eraseIdx i) ++ (rowR l).drop ((l.length - 1) * 2) := by
  have hl := rowR_length l
  rw [rowR_drop, List.take_of_length_le (by rw [rowR_length, List.length_drop]; omega), setRun_eq _ _ _ (by rw [rowR_length, rowR_length, List.length_drop]; omega), rowR_take, ← rowR_append, rowR_length, List.length_drop, List.eraseIdx_eq_take_drop_succ]
  congr 2; omega
theorem clr_row {l : List Res} {i : Nat} (h : i < l.length) : setRun (rowR (l.eraseIdx i) ++ (rowR l).drop ((l.length - 1) * 2)) ((l.length - 1) * 2) restR = rowR (l.eraseIdx i) ++ restR := by
  have hl := rowR_length l
  have he := rowR_length (l.eraseIdx i)
  rw [List.length_eraseIdx_of_lt h] at he
  rw [setRun_eq _ _ _ (by rw [List.length_append, List.length_drop, he]; simp [restR]; omega), List.take_append_of_le_length (by omega), List.take_of_length_le (by omega), List.drop_of_length_le (by rw [List.length_append, List.length_drop, he]; simp [restR]; omega), List.append_nil]

set_option maxHeartbeats 8000000 in
set_option maxRecDepth 100000 in
theorem DeleteS_spec (l : List Res) (i cap : Nat) (hi : i < l.length) (hl : l.length ≤ 1000000) (hcap : l.length ≤ cap) :
    Spec Tryz.prog 29 [.row 0 0 l.length cap, .d (.int .i64 (i : Int)), .d (.int .i64 ((i + 1 : Nat) : Int))] [.row (rowR l)] (fun r h' => r = .row 0 0 (l.length - 1) cap ∧ h' = [.row (rowR (l.eraseIdx i) ++ restR)]) := by
  have hrl := rowR_length l
  have hd := del_row hi
  have hc := clr_row hi
  have he := rowR_length (l.eraseIdx i)
  rw [List.length_eraseIdx_of_lt hi] at he
  have hlow : lowL 1 (rowR (l.eraseIdx i) ++ restR) = true := by
    have : rowR (l.eraseIdx i) ++ restR = ((encRes (l.eraseIdx i)).flatten ++ [Dat.int .i64 0, Dat.int .i64 0]).map AV.d := by simp [rowR, flatAV, restR]
    rw [this]; exact lowL_d _
  generalize l.length = n at *
  generalize rowR l = row at *
  generalize rowR (l.eraseIdx i) = row2 at *
  refine Spec_of_body hT Tryz.func29 rfl rfl rfl rfl ?_
  intro E hE
  repeat (first | refine wk hT rfl rfl ?_ | refine wd hT rfl rfl rfl ?_ | refine wz hT rfl ?_ | refine AWd_nil ?_ | refine AWk_nil ?_ | refine wh hT rfl rfl rfl rfl ?_ | refine wg hT rfl rfl rfl rfl rfl ?_ | refine AW_seq ?_ | refine AW_region ?_ | refine wx mixed ?_ | refine AW_block ?_ | refine AW_skip ?_ | refine AW_exit ?_ | refine AW_ret ?_)
  refine AWk_op (OpS_of_pure (cutRow_ok (sz := 2) hT rfl rfl rfl rfl rfl rfl ⟨by omega, by omega, by omega, by omega⟩)) rfl ?_
  repeat (first | refine wk hT rfl rfl ?_ | refine wd hT rfl rfl rfl ?_ | refine wz hT rfl ?_ | refine AWd_nil ?_ | refine AWk_nil ?_ | refine wh hT rfl rfl rfl rfl ?_ | refine wg hT rfl rfl rfl rfl rfl ?_ | refine AW_seq ?_ | refine AW_region ?_ | refine wx mixed ?_ | refine AW_block ?_ | refine AW_skip ?_ | refine AW_exit ?_ | refine AW_ret ?_)
  refine AW_condL rfl (fun h1 => ?_) (fun h1 => ?_)
  · exact absurd h1 (by simp; omega)
  repeat (first | refine wk hT rfl rfl ?_ | refine wd hT rfl rfl rfl ?_ | refine wz hT rfl ?_ | refine AWd_nil ?_ | refine AWk_nil ?_ | refine wh hT rfl rfl rfl rfl ?_ | refine wg hT rfl rfl rfl rfl rfl ?_ | refine AW_seq ?_ | refine AW_region ?_ | refine AW_block ?_ | refine AW_skip ?_ | refine AW_exit ?_ | refine AW_ret ?_)
  refine AW_drawG (fun i => bif Nat.beq i 6 then [0] else []) (fun i => bif Nat.beq i 6 then [0] else []) mixed (by kernel_rfl) ?_
  repeat (first | refine AWg_load hT rfl rfl rfl rfl (by first | exact List.mem_cons_self | exact sm) rfl ?_ | refine AWg_pure hT (fun _ => rfl) rfl rfl (by first | exact True.intro | omega | exact sd) ?_ | refine AWg_store hT rfl rfl rfl (by first | exact List.mem_cons_self | exact sm) rfl ?_ | refine AWd_nil ?_)
  refine AWg_op (v := .row 0 0 i cap) (os := []) (fun k hk1 hk2 => OpS_of_pure (rowCutE (l := 0) (r := i) (sz := 2) hT rfl rfl rfl rfl ⟨_, rfl⟩ (by omega) (by omega) (by simp))) rfl ?_
  repeat (first | refine AWg_load hT rfl rfl rfl rfl (by first | exact List.mem_cons_self | exact sm) rfl ?_ | refine AWg_pure hT (fun _ => rfl) rfl rfl (by first | exact True.intro | omega | exact sd) ?_ | refine AWg_store hT rfl rfl rfl (by first | exact List.mem_cons_self | exact sm) rfl ?_ | refine AWd_nil ?_)
  refine AWg_op (v := .row 0 (if cap = i + 1 then 0 else 0 + (i + 1) * 2) (n - (i + 1)) (cap - (i + 1))) (os := []) (fun k hk1 hk2 => OpS_of_pure (rowCutE (l := i + 1) (r := n) (sz := 2) hT rfl rfl rfl ⟨_, rfl⟩ rfl (by omega) (by omega) rfl)) rfl ?_
  generalize hoff : (if cap = i + 1 then 0 else 0 + (i + 1) * 2) = off2
  have hoff2 : (row.drop off2).take ((n - (i + 1)) * 2) = (row.drop ((i + 1) * 2)).take ((n - (i + 1)) * 2) := by
    by_cases hz : n = i + 1
    · rw [hz]; simp
    · rw [if_neg (by omega)] at hoff; rw [← hoff, Nat.zero_add]
  have hoff3 : off2 + (n - (i + 1)) * 2 ≤ row.length := by
    by_cases hz : cap = i + 1
    · rw [if_pos hz] at hoff; omega
    · rw [if_neg hz] at hoff; omega
  refine AWg_op (v := .row 0 0 (i + (n - (i + 1))) cap) (os := [.row (setRun row (i * 2) ((row.drop off2).take ((n - (i + 1)) * 2)))]) (fun k hk1 hk2 => appSelf_ok hT rfl rfl rfl rfl rfl ((hk2 0 List.mem_cons_self).trans rfl) (by omega) (by omega) (by omega)) rfl ?_
  rw [hoff2, hd, show i + (n - (i + 1)) = n - 1 by omega]
  repeat (first | refine AWg_load hT rfl rfl rfl rfl (by first | exact List.mem_cons_self | exact sm) rfl ?_ | refine AWg_pure hT (fun _ => rfl) rfl rfl (by first | exact True.intro | omega | exact sd) ?_ | refine AWg_store hT rfl rfl rfl (by first | exact List.mem_cons_self | exact sm) rfl ?_ | refine AWd_nil ?_)
  change AW _ _ _ _ _ (look _) [.row (row2 ++ row.drop ((n - 1) * 2))]
  refine AW_seq (AW_region ?_)
  repeat (first | refine wk hT rfl rfl ?_ | refine wd hT rfl rfl rfl ?_ | refine wz hT rfl ?_ | refine AWd_nil ?_ | refine AWk_nil ?_ | refine wh hT rfl rfl rfl rfl ?_ | refine wg hT rfl rfl rfl rfl rfl ?_)
  refine AWk_op (OpS_of_pure (rowCutE (v := .row 0 ((n - 1) * 2) 1 (cap - (n - 1))) (l := n - 1) (r := n) (sz := 2) hT rfl rfl rfl ⟨_, rfl⟩ ⟨_, rfl⟩ (by omega) (by omega) (by rw [if_neg (by omega)]; congr 1 <;> omega))) rfl ?_
  refine AWk_op0 (clearRow_ok (h := [.row (row2 ++ row.drop ((n - 1) * 2))]) hT rfl rfl rfl rfl (by show (n - 1) * 2 + 1 * 2 ≤ _; rw [List.length_append, List.length_drop, he]; omega)) rfl ?_
  change AWk _ _ _ _ _ _ (look _) [.row (setRun (row2 ++ row.drop ((n - 1) * 2)) ((n - 1) * 2) restR)]
  rw [hc]
  repeat (first | refine wk hT rfl rfl ?_ | refine wd hT rfl rfl rfl ?_ | refine wz hT rfl ?_ | refine AWd_nil ?_ | refine AWk_nil ?_ | refine wh hT rfl rfl rfl rfl ?_ | refine wg hT rfl rfl rfl rfl rfl ?_ | refine AW_seq ?_ | refine AW_region ?_ | refine wx mixed ?_ | refine AW_block ?_ | refine AW_skip ?_ | refine AW_exit ?_ | refine AW_ret ?_)
  exact rq ⟨rfl, rfl⟩ rfl (.refl _) (h6 := (Bool.and_true _).trans hlow)
end Tdoc
/- Decide of the program. -/
set_option linter.unusedVariables false
set_option linter.unusedSimpArgs false
namespace Tdoc
open Go Go.Proofs

def minF (rs : List Rule) (rule : Int) : Nat → List Res → List Res
  | 0, l => l
  | k + 1, l => minF rs rule k (if forceF (l.eraseIdx k) 0 rs = rule then l.eraseIdx k else l)
def decideF (rs : List Rule) (l : List Res) : Decn × Int :=
  if validPol rs ≠ 0 then (⟨0, 0, []⟩, validPol rs)
  else if l.length ≠ 13 ∨ properF 0 l = false then (⟨0, 0, []⟩, 1)
  else (⟨verdF rs (forceF l 0 rs), forceF l 0 rs, minF rs (forceF l 0 rs) l.length l⟩, 0)

set_option maxHeartbeats 8000000 in
set_option maxRecDepth 100000 in
theorem enough_spec (rs : List Rule) (l : List Res) (rule : Int) (hl : l.length ≤ 1000000) (hrs : rs.length ≤ 1000000) (hs : ∀ r, r ∈ rs → smallC (condR r)) :
    Spec Tryz.prog 27 [.d (.sl 2 (encRes l)), .ptr 0 0, .ptr 1 0] [.row [.d (.sl 6 (encRs rs))], .row [.d (.int .i64 rule)]] (fun r h' => r = .d (.bool (decide (forceF l 0 rs = rule))) ∧ h' = [.row [.d (.sl 6 (encRs rs))], .row [.d (.int .i64 rule)]]) := by
  have hf := force_spec rs l hl hrs hs
  unfold polAV at hf
  generalize forceF l 0 rs = fv at hf
  refine Spec_of_body hT Tryz.func27 rfl rfl rfl rfl ?_
  intro E hE
  repeat (first | refine wk hT rfl rfl ?_ | refine wd hT rfl rfl rfl ?_ | refine wz hT rfl ?_ | refine AWd_nil ?_ | refine AWk_nil ?_ | refine wh hT rfl rfl rfl rfl ?_ | refine wg hT rfl rfl rfl rfl rfl ?_ | refine AW_seq ?_ | refine AW_region ?_ | refine wx mixed ?_ | refine AW_block ?_ | refine AW_skip ?_ | refine AW_exit ?_ | refine AW_ret ?_)
  first | refine AWk_op (callS0 rfl rfl (hf) rfl rfl rfl) rfl ?_ | refine AWd_op (callS0 rfl rfl (hf) rfl rfl rfl) rfl rfl ?_ | refine AWk_op (callS0L rfl rfl (hf) rfl (by repeat (first | exact trivial | exact AV.le.refl _ | exact AV.le.dat | exact AV.le.nils | exact AV.le.nilsf | exact AV.le.any _ | exact ObLe.refl _ | exact ⟨rfl, rfl⟩ | refine AV.le.tup ?_ | refine AV.le.agg ?_ | exact li | exact lb | exact ls | exact lk | exact ld | exact lz | refine ⟨?_, ?_⟩)) rfl rfl) rfl ?_ | refine AWd_op (callS0L rfl rfl (hf) rfl (by repeat (first | exact trivial | exact AV.le.refl _ | exact AV.le.dat | exact AV.le.nils | exact AV.le.nilsf | exact AV.le.any _ | exact ObLe.refl _ | exact ⟨rfl, rfl⟩ | refine AV.le.tup ?_ | refine AV.le.agg ?_ | exact li | exact lb | exact ls | exact lk | exact ld | exact lz | refine ⟨?_, ?_⟩)) rfl rfl) rfl rfl ?_
  repeat (first | refine wk hT rfl rfl ?_ | refine wd hT rfl rfl rfl ?_ | refine wz hT rfl ?_ | refine AWd_nil ?_ | refine AWk_nil ?_ | refine wh hT rfl rfl rfl rfl ?_ | refine wg hT rfl rfl rfl rfl rfl ?_ | refine AW_seq ?_ | refine AW_region ?_ | refine wx mixed ?_ | refine AW_block ?_ | refine AW_skip ?_ | refine AW_exit ?_ | refine AW_ret ?_)
  exact rq ⟨rfl, rfl⟩ rfl (.bool (by rw [Bool.eq_iff_iff]; simp))

set_option maxHeartbeats 8000000 in
set_option maxRecDepth 100000 in
theorem Decide_spec (rs : List Rule) (l : List Res) (hl : l.length ≤ 1000000) (hrs : rs.length ≤ 1000000) (hs : ∀ r, r ∈ rs → smallC (condR r)) :
    Spec Tryz.prog 10 [polAV rs, .d (.sl 2 (encRes l))] [] (fun r h' => r = .tup [decAV (decideF rs l).1, .d (.int .i64 (decideF rs l).2)] ∧ h' = []) := by
  have hv := Valid_spec rs hs
  have hp := proper_spec l hl
  have hf := force_spec rs l hl hrs hs
  have hrg := forceF_range l rs 0
  have hvd := verdict_spec rs (forceF l 0 rs) (by omega)
  have hcl := CloneS_spec l hl
  have hlen := encRes_length l
  have hen := fun x hx => enough_spec rs x (forceF l 0 rs) hx hrs hs
  unfold decideF decAV decCells
  unfold polAV at hv hf hvd ⊢
  generalize validPol rs = e at hv
  generalize properF 0 l = pb at hp
  generalize forceF l 0 rs = rule at hf hvd hen
  generalize verdF rs rule = vd at hvd
  generalize hfin : minF rs rule l.length l = fin
  have hb : ∀ n : Nat, ((n : Int) != 13) = decide (n ≠ 13) := fun n => by rw [Bool.eq_iff_iff]; simp; omega
  refine Spec_of_body hT Tryz.func10 rfl rfl rfl rfl ?_
  intro E hE
  repeat (first | refine wk hT rfl rfl ?_ | refine wd hT rfl rfl rfl ?_ | refine wz hT rfl ?_ | refine AWd_nil ?_ | refine AWk_nil ?_ | refine wh hT rfl rfl rfl rfl ?_ | refine wg hT rfl rfl rfl rfl rfl ?_ | refine AW_seq ?_ | refine AW_region ?_ | refine wx mixed ?_ | refine AW_block ?_ | refine AW_skip ?_ | refine AW_exit ?_ | refine AW_ret ?_)
  first | refine AWk_op (callS0 rfl rfl (hv) rfl rfl rfl) rfl ?_ | refine AWd_op (callS0 rfl rfl (hv) rfl rfl rfl) rfl rfl ?_ | refine AWk_op (callS0L rfl rfl (hv) rfl (by repeat (first | exact trivial | exact AV.le.refl _ | exact AV.le.dat | exact AV.le.nils | exact AV.le.nilsf | exact AV.le.any _ | exact ObLe.refl _ | exact ⟨rfl, rfl⟩ | refine AV.le.tup ?_ | refine AV.le.agg ?_ | exact li | exact lb | exact ls | exact lk | exact ld | exact lz | refine ⟨?_, ?_⟩)) rfl rfl) rfl ?_ | refine AWd_op (callS0L rfl rfl (hv) rfl (by repeat (first | exact trivial | exact AV.le.refl _ | exact AV.le.dat | exact AV.le.nils | exact AV.le.nilsf | exact AV.le.any _ | exact ObLe.refl _ | exact ⟨rfl, rfl⟩ | refine AV.le.tup ?_ | refine AV.le.agg ?_ | exact li | exact lb | exact ls | exact lk | exact ld | exact lz | refine ⟨?_, ?_⟩)) rfl rfl) rfl rfl ?_
  repeat (first | refine wk hT rfl rfl ?_ | refine wd hT rfl rfl rfl ?_ | refine wz hT rfl ?_ | refine AWd_nil ?_ | refine AWk_nil ?_ | refine wh hT rfl rfl rfl rfl ?_ | refine wg hT rfl rfl rfl rfl rfl ?_ | refine AW_seq ?_ | refine AW_region ?_ | refine wx mixed ?_ | refine AW_block ?_ | refine AW_skip ?_ | refine AW_exit ?_ | refine AW_ret ?_)
  refine AW_condL rfl (fun h1 => ?_) (fun h1 => ?_)
  · have h1' : e ≠ 0 := by simpa using h1
    rw [if_pos h1']
    repeat (first | refine wk hT rfl rfl ?_ | refine wd hT rfl rfl rfl ?_ | refine wz hT rfl ?_ | refine AWd_nil ?_ | refine AWk_nil ?_ | refine wh hT rfl rfl rfl rfl ?_ | refine wg hT rfl rfl rfl rfl rfl ?_ | refine AW_seq ?_ | refine AW_region ?_ | refine wx mixed ?_ | refine AW_block ?_ | refine AW_skip ?_ | refine AW_exit ?_ | refine AW_ret ?_)
    first | exact rx ⟨rfl, rfl⟩ | exact rxN ⟨rfl, rfl⟩ | (refine rq ⟨rfl, rfl⟩ rfl ?_; repeat (first | exact trivial | exact AV.le.refl _ | exact AV.le.dat | exact AV.le.nils | exact AV.le.nilsf | exact AV.le.any _ | exact ObLe.refl _ | exact ⟨rfl, rfl⟩ | refine AV.le.tup ?_ | refine AV.le.agg ?_ | exact li | exact lb | exact ls | exact lk | exact ld | exact lz | refine ⟨?_, ?_⟩)) | (refine rqN ⟨rfl, rfl⟩ rfl ?_; repeat (first | exact trivial | exact AV.le.refl _ | exact AV.le.dat | exact AV.le.nils | exact AV.le.nilsf | exact AV.le.any _ | exact ObLe.refl _ | exact ⟨rfl, rfl⟩ | refine AV.le.tup ?_ | refine AV.le.agg ?_ | exact li | exact lb | exact ls | exact lk | exact ld | exact lz | refine ⟨?_, ?_⟩))
  · have h1' : ¬ e ≠ 0 := by simpa using h1
    rw [if_neg h1']
    repeat (first | refine wk hT rfl rfl ?_ | refine wd hT rfl rfl rfl ?_ | refine wz hT rfl ?_ | refine AWd_nil ?_ | refine AWk_nil ?_ | refine wh hT rfl rfl rfl rfl ?_ | refine wg hT rfl rfl rfl rfl rfl ?_ | refine AW_seq ?_ | refine AW_region ?_ | refine wx mixed ?_ | refine AW_block ?_ | refine AW_skip ?_ | refine AW_exit ?_ | refine AW_ret ?_)
    first | refine AWk_gop rfl rfl rfl (fun hg => ⟨(sg (C := True) hg).1, callS0 rfl rfl (hp) rfl rfl rfl⟩) ?_ | refine AWd_gop rfl rfl rfl rfl (fun hg => ⟨(sg (C := True) hg).1, callS0 rfl rfl (hp) rfl rfl rfl⟩) ?_
    repeat (first | refine wk hT rfl rfl ?_ | refine wd hT rfl rfl rfl ?_ | refine wz hT rfl ?_ | refine AWd_nil ?_ | refine AWk_nil ?_ | refine wh hT rfl rfl rfl rfl ?_ | refine wg hT rfl rfl rfl rfl rfl ?_ | refine AW_seq ?_ | refine AW_region ?_ | refine wx mixed ?_ | refine AW_block ?_ | refine AW_skip ?_ | refine AW_exit ?_ | refine AW_ret ?_)
    refine AW_condL rfl (fun h2 => ?_) (fun h2 => ?_)
    · have h2' : l.length ≠ 13 ∨ pb = false := by rw [hlen, hb] at h2; cases pb <;> simp at h2 ⊢; exact h2
      rw [if_pos h2']
      repeat (first | refine wk hT rfl rfl ?_ | refine wd hT rfl rfl rfl ?_ | refine wz hT rfl ?_ | refine AWd_nil ?_ | refine AWk_nil ?_ | refine wh hT rfl rfl rfl rfl ?_ | refine wg hT rfl rfl rfl rfl rfl ?_ | refine AW_seq ?_ | refine AW_region ?_ | refine wx mixed ?_ | refine AW_block ?_ | refine AW_skip ?_ | refine AW_exit ?_ | refine AW_ret ?_)
      first | exact rx ⟨rfl, rfl⟩ | exact rxN ⟨rfl, rfl⟩ | (refine rq ⟨rfl, rfl⟩ rfl ?_; repeat (first | exact trivial | exact AV.le.refl _ | exact AV.le.dat | exact AV.le.nils | exact AV.le.nilsf | exact AV.le.any _ | exact ObLe.refl _ | exact ⟨rfl, rfl⟩ | refine AV.le.tup ?_ | refine AV.le.agg ?_ | exact li | exact lb | exact ls | exact lk | exact ld | exact lz | refine ⟨?_, ?_⟩)) | (refine rqN ⟨rfl, rfl⟩ rfl ?_; repeat (first | exact trivial | exact AV.le.refl _ | exact AV.le.dat | exact AV.le.nils | exact AV.le.nilsf | exact AV.le.any _ | exact ObLe.refl _ | exact ⟨rfl, rfl⟩ | refine AV.le.tup ?_ | refine AV.le.agg ?_ | exact li | exact lb | exact ls | exact lk | exact ld | exact lz | refine ⟨?_, ?_⟩))
    · have h2' : ¬ (l.length ≠ 13 ∨ pb = false) := by rw [hlen, hb] at h2; cases pb <;> simp at h2 ⊢; exact h2
      rw [if_neg h2']
      have h13 : l.length = 13 := by omega
      repeat (first | refine wk hT rfl rfl ?_ | refine wd hT rfl rfl rfl ?_ | refine wz hT rfl ?_ | refine AWd_nil ?_ | refine AWk_nil ?_ | refine wh hT rfl rfl rfl rfl ?_ | refine wg hT rfl rfl rfl rfl rfl ?_ | refine AW_seq ?_ | refine AW_region ?_ | refine wx mixed ?_ | refine AW_block ?_ | refine AW_skip ?_ | refine AW_exit ?_ | refine AW_ret ?_)
      first | refine AWk_op (callS0 rfl rfl (hf) rfl rfl rfl) rfl ?_ | refine AWd_op (callS0 rfl rfl (hf) rfl rfl rfl) rfl rfl ?_ | refine AWk_op (callS0L rfl rfl (hf) rfl (by repeat (first | exact trivial | exact AV.le.refl _ | exact AV.le.dat | exact AV.le.nils | exact AV.le.nilsf | exact AV.le.any _ | exact ObLe.refl _ | exact ⟨rfl, rfl⟩ | refine AV.le.tup ?_ | refine AV.le.agg ?_ | exact li | exact lb | exact ls | exact lk | exact ld | exact lz | refine ⟨?_, ?_⟩)) rfl rfl) rfl ?_ | refine AWd_op (callS0L rfl rfl (hf) rfl (by repeat (first | exact trivial | exact AV.le.refl _ | exact AV.le.dat | exact AV.le.nils | exact AV.le.nilsf | exact AV.le.any _ | exact ObLe.refl _ | exact ⟨rfl, rfl⟩ | refine AV.le.tup ?_ | refine AV.le.agg ?_ | exact li | exact lb | exact ls | exact lk | exact ld | exact lz | refine ⟨?_, ?_⟩)) rfl rfl) rfl rfl ?_
      repeat (first | refine wk hT rfl rfl ?_ | refine wd hT rfl rfl rfl ?_ | refine wz hT rfl ?_ | refine AWd_nil ?_ | refine AWk_nil ?_ | refine wh hT rfl rfl rfl rfl ?_ | refine wg hT rfl rfl rfl rfl rfl ?_ | refine AW_seq ?_ | refine AW_region ?_ | refine wx mixed ?_ | refine AW_block ?_ | refine AW_skip ?_ | refine AW_exit ?_ | refine AW_ret ?_)
      first | refine AWk_op (callS0 rfl rfl (hcl) rfl rfl rfl) rfl ?_ | refine AWd_op (callS0 rfl rfl (hcl) rfl rfl rfl) rfl rfl ?_ | refine AWk_op (callS0L rfl rfl (hcl) rfl (by repeat (first | exact trivial | exact AV.le.refl _ | exact AV.le.dat | exact AV.le.nils | exact AV.le.nilsf | exact AV.le.any _ | exact ObLe.refl _ | exact ⟨rfl, rfl⟩ | refine AV.le.tup ?_ | refine AV.le.agg ?_ | exact li | exact lb | exact ls | exact lk | exact ld | exact lz | refine ⟨?_, ?_⟩)) rfl rfl) rfl ?_ | refine AWd_op (callS0L rfl rfl (hcl) rfl (by repeat (first | exact trivial | exact AV.le.refl _ | exact AV.le.dat | exact AV.le.nils | exact AV.le.nilsf | exact AV.le.any _ | exact ObLe.refl _ | exact ⟨rfl, rfl⟩ | refine AV.le.tup ?_ | refine AV.le.agg ?_ | exact li | exact lb | exact ls | exact lk | exact ld | exact lz | refine ⟨?_, ?_⟩)) rfl rfl) rfl rfl ?_
      repeat (first | refine wk hT rfl rfl ?_ | refine wd hT rfl rfl rfl ?_ | refine wz hT rfl ?_ | refine AWd_nil ?_ | refine AWk_nil ?_ | refine wh hT rfl rfl rfl rfl ?_ | refine wg hT rfl rfl rfl rfl rfl ?_ | refine AW_seq ?_ | refine AW_region ?_ | refine wx mixed ?_ | refine AW_block ?_ | refine AW_skip ?_ | refine AW_exit ?_ | refine AW_ret ?_)
      refine AW_loopC (ι := Nat × List Res) (fun x => [(2, .ptr 0 0), (4, .ptr 1 0), (7, .ptr 2 0), (8, .fn (.func 27) [] [.ptr 0 0, .ptr 2 0]), (9, .d (.sl 2 (encRes x.2))), (10, .d (.int .i64 ((x.1 : Int) - 1)))])
        (fun x => [.row [.d (.sl 6 (encRs rs))], .row [.d (.int .i64 0), .d (.int .i64 0), .sl 2 [] .full], .row [.d (.int .i64 rule)]]) (fun x => x.1 ≤ x.2.length ∧ x.2.length ≤ 1000000 ∧ minF rs rule x.1 x.2 = fin) (fun x => x.1) (l.length, l) ⟨Nat.le_refl _, hl, hfin⟩
        ⟨.refl _, .refl _, .refl _, .refl _, .refl _, .int (by rw [hlen, wrap_id (by omega)]), trivial⟩ (HLe.refl _) ?_
      rintro ⟨k, left⟩ ⟨i1, i2, i3⟩
      simp only at i1 i2 i3 ⊢
      repeat (first | refine wk hT rfl rfl ?_ | refine wd hT rfl rfl rfl ?_ | refine wz hT rfl ?_ | refine AWd_nil ?_ | refine AWk_nil ?_ | refine wh hT rfl rfl rfl rfl ?_ | refine wg hT rfl rfl rfl rfl rfl ?_ | refine AW_seq ?_ | refine AW_region ?_ | refine wx mixed ?_ | refine AW_block ?_ | refine AW_skip ?_ | refine AW_exit ?_ | refine AW_ret ?_)
      refine AW_condL rfl (fun h3 => ?_) (fun h3 => ?_)
      · obtain ⟨k, rfl⟩ : ∃ k', k = k' + 1 := ⟨k - 1, by simp at h3; omega⟩
        have hk1 : (((k + 1 : Nat) : Int) - 1) = (k : Int) := by omega
        have hwk : IntKind.i64.wrap ((k : Int) + 1) = ((k + 1 : Nat) : Int) := by rw [wrap_id (by omega)]; omega
        have hwm : IntKind.i64.wrap ((k : Int) - 1) = (k : Int) - 1 := wrap_id (by omega)
        have hne : left ≠ [] := by intro hh; rw [hh] at i1; simp at i1
        have hc2 := CloneRow_spec left i2 hne
        have hll := List.length_eraseIdx_of_lt (l := left) (i := k) (by omega)
        have hen2 := hen (left.eraseIdx k) (by omega)
        have hrd := RowDat_row (left.eraseIdx k) restR
        have hel := encRes_length (left.eraseIdx k)
        rw [minF] at i3
        rw [hk1]
        refine AW_skip ?_
        refine AW_room ?_
        repeat (first | refine wk hT rfl rfl ?_ | refine wd hT rfl rfl rfl ?_ | refine wz hT rfl ?_ | refine AWd_nil ?_ | refine AWk_nil ?_ | refine wh hT rfl rfl rfl rfl ?_ | refine wg hT rfl rfl rfl rfl rfl ?_ | refine AW_seq ?_ | refine AW_region ?_ | refine wx mixed ?_ | refine AW_block ?_ | refine AW_skip ?_ | refine AW_exit ?_ | refine AW_ret ?_)
        refine AWk_opX (callXv (v := fun cap => .row 3 0 left.length cap) rfl rfl hc2 [3] (by decide) rfl rfl rfl rfl (fun _ => (Bool.and_true _).trans (lowL_row 0 left)) (fun _ => rfl) (fun _ => rfl)) rfl ?_
        intro cap hcap
        have hdl := DeleteS_spec left k cap (by omega) i2 hcap
        rw [← hwk] at hdl
        repeat (first | refine wk hT rfl rfl ?_ | refine wd hT rfl rfl rfl ?_ | refine wz hT rfl ?_ | refine AWd_nil ?_ | refine AWk_nil ?_ | refine wh hT rfl rfl rfl rfl ?_ | refine wg hT rfl rfl rfl rfl rfl ?_)
        refine AWk_op (callS1v (v := .row 3 0 (left.length - 1) cap) rfl rfl hdl [3] (by decide) rfl rfl rfl ((Bool.and_true _).trans (lowL_row 0 left)) ((Bool.and_true _).trans (lowL_rest 0 (left.eraseIdx k))) rfl rfl) rfl ?_
        repeat (first | refine wk hT rfl rfl ?_ | refine wd hT rfl rfl rfl ?_ | refine wz hT rfl ?_ | refine AWd_nil ?_ | refine AWk_nil ?_ | refine wh hT rfl rfl rfl rfl ?_ | refine wg hT rfl rfl rfl rfl rfl ?_)
        change AW _ _ _ _ _ (look _) [.row [.d (.sl 6 (encRs rs))], .row [.d (.int .i64 0), .d (.int .i64 0), .sl 2 [] .full], .row [.d (.int .i64 rule)], .row (rowR (left.eraseIdx k) ++ restR)]
        refine AW_freeze 11 3 2 (encRes (left.eraseIdx k)) rfl rfl (by rw [hel, hll]) (by omega) hrd ?_
        repeat (first | refine wk hT rfl rfl ?_ | refine wd hT rfl rfl rfl ?_ | refine wz hT rfl ?_ | refine AWd_nil ?_ | refine AWk_nil ?_ | refine wh hT rfl rfl rfl rfl ?_ | refine wg hT rfl rfl rfl rfl rfl ?_ | refine AW_seq ?_ | refine AW_region ?_ | refine wx mixed ?_ | refine AW_block ?_ | refine AW_skip ?_ | refine AW_exit ?_ | refine AW_ret ?_)
        refine AWk_op (callS1 rfl rfl hen2 [0, 2] (by decide) rfl rfl rfl rfl rfl rfl rfl) rfl ?_
        repeat (first | refine wk hT rfl rfl ?_ | refine wd hT rfl rfl rfl ?_ | refine wz hT rfl ?_ | refine AWd_nil ?_ | refine AWk_nil ?_ | refine wh hT rfl rfl rfl rfl ?_ | refine wg hT rfl rfl rfl rfl rfl ?_ | refine AW_seq ?_ | refine AW_region ?_ | refine wx mixed ?_ | refine AW_block ?_ | refine AW_skip ?_ | refine AW_exit ?_ | refine AW_ret ?_)
        refine AW_condL rfl (fun h4 => ?_) (fun h4 => ?_)
        · have h4' := of_decide_eq_true h4
          rw [if_pos h4'] at i3
          repeat (first | refine wk hT rfl rfl ?_ | refine wd hT rfl rfl rfl ?_ | refine wz hT rfl ?_ | refine AWd_nil ?_ | refine AWk_nil ?_ | refine wh hT rfl rfl rfl rfl ?_ | refine wg hT rfl rfl rfl rfl rfl ?_ | refine AW_seq ?_ | refine AW_region ?_ | refine wx mixed ?_ | refine AW_block ?_ | refine AW_skip ?_ | refine AW_exit ?_ | refine AW_ret ?_)
          exact ⟨(k, left.eraseIdx k), [_], ⟨by simp only; omega, by simp only; omega, i3⟩, by simp only; omega, ⟨.refl _, .refl _, .refl _, .refl _, .refl _, .int hwm, trivial⟩, HLe.refl _, Env.below_mono hE (by simp), rfl, rfl⟩
        · have h4' := of_decide_eq_false h4
          rw [if_neg h4'] at i3
          repeat (first | refine wk hT rfl rfl ?_ | refine wd hT rfl rfl rfl ?_ | refine wz hT rfl ?_ | refine AWd_nil ?_ | refine AWk_nil ?_ | refine wh hT rfl rfl rfl rfl ?_ | refine wg hT rfl rfl rfl rfl rfl ?_ | refine AW_seq ?_ | refine AW_region ?_ | refine wx mixed ?_ | refine AW_block ?_ | refine AW_skip ?_ | refine AW_exit ?_ | refine AW_ret ?_)
          exact ⟨(k, left), [_], ⟨by simp only; omega, i2, i3⟩, by simp only; omega, ⟨.refl _, .refl _, .refl _, .refl _, .refl _, .int hwm, trivial⟩, HLe.refl _, Env.below_mono hE (by simp), rfl, rfl⟩
      · have hk0 : k = 0 := by simp at h3; omega
        subst hk0
        rw [minF] at i3
        subst i3
        repeat (first | refine wk hT rfl rfl ?_ | refine wd hT rfl rfl rfl ?_ | refine wz hT rfl ?_ | refine AWd_nil ?_ | refine AWk_nil ?_ | refine wh hT rfl rfl rfl rfl ?_ | refine wg hT rfl rfl rfl rfl rfl ?_ | refine AW_seq ?_ | refine AW_region ?_ | refine AW_block ?_ | refine AW_skip ?_ | refine AW_exit ?_ | refine AW_ret ?_)
        refine AW_drawG (fun i => bif Nat.beq i 0 then [0] else bif Nat.beq i 1 || Nat.beq i 3 then [2] else bif Nat.beq i 6 then [1] else []) (fun i => bif Nat.beq i 6 then [1] else []) mixed (by kernel_rfl) ?_
        repeat (first | refine AWg_load hT rfl rfl rfl rfl (by first | exact List.mem_cons_self | exact sm) rfl ?_ | refine AWg_pure hT (fun _ => rfl) rfl rfl (by first | exact True.intro | omega | exact sd) ?_ | refine AWg_store hT rfl rfl rfl (by first | exact List.mem_cons_self | exact sm) rfl ?_ | refine AWd_nil ?_)
        refine AWg_op (v := .d (.int .i64 vd)) (os := []) (fun k hk1 hk2 => callS0 rfl rfl hvd rfl rfl rfl) rfl ?_
        repeat (first | refine AWg_load hT rfl rfl rfl rfl (by first | exact List.mem_cons_self | exact sm) rfl ?_ | refine AWg_pure hT (fun _ => rfl) rfl rfl (by first | exact True.intro | omega | exact sd) ?_ | refine AWg_store hT rfl rfl rfl (by first | exact List.mem_cons_self | exact sm) rfl ?_ | refine AWd_nil ?_)
        repeat (first | refine wk hT rfl rfl ?_ | refine wd hT rfl rfl rfl ?_ | refine wz hT rfl ?_ | refine AWd_nil ?_ | refine AWk_nil ?_ | refine wh hT rfl rfl rfl rfl ?_ | refine wg hT rfl rfl rfl rfl rfl ?_ | refine AW_seq ?_ | refine AW_region ?_ | refine wx mixed ?_ | refine AW_block ?_ | refine AW_skip ?_ | refine AW_exit ?_ | refine AW_ret ?_)
        first | exact rx ⟨rfl, rfl⟩ | exact rxN ⟨rfl, rfl⟩ | (refine rq ⟨rfl, rfl⟩ rfl ?_; repeat (first | exact trivial | exact AV.le.refl _ | exact AV.le.dat | exact AV.le.nils | exact AV.le.nilsf | exact AV.le.any _ | exact ObLe.refl _ | exact ⟨rfl, rfl⟩ | refine AV.le.tup ?_ | refine AV.le.agg ?_ | exact li | exact lb | exact ls | exact lk | exact ld | exact lz | refine ⟨?_, ?_⟩)) | (refine rqN ⟨rfl, rfl⟩ rfl ?_; repeat (first | exact trivial | exact AV.le.refl _ | exact AV.le.dat | exact AV.le.nils | exact AV.le.nilsf | exact AV.le.any _ | exact ObLe.refl _ | exact ⟨rfl, rfl⟩ | refine AV.le.tup ?_ | refine AV.le.agg ?_ | exact li | exact lb | exact ls | exact lk | exact ld | exact lz | refine ⟨?_, ?_⟩))
end Tdoc
/- Decide of the reference. -/
set_option linter.unusedVariables false
set_option linter.unusedSimpArgs false
namespace Tdoc
open Go Go.Proofs

def hB (l : List Res) : Rule → Bool
  | .mk _ al c => al || (validC 8 c && holdsF l 8 c)
theorem hB_mk (l : List Res) (v : Int) (al : Bool) (c : Cond) : hB l (.mk v al c) = (al || (validC 8 c && holdsF l 8 c)) := rfl
/-- The first rule that holds, -1 if none does. -/
def holdI (l : List Res) : Int → List Rule → Int
  | _, [] => -1
  | i, r :: rs => if hB l r = true then i else holdI l (i + 1) rs

theorem force_hold {l : List Res} (hf : FullR l) : ∀ (rs : List Rule) (i : Int), firstErr rs = 0 → forceF l i rs = holdI l i rs
  | [], i, _ => rfl
  | .mk v al (.mk k c w kids) :: rs, i, he => by
    rw [firstErr] at he
    split at he
    · rename_i h0
      have ih := force_hold hf rs (i + 1) he
      rw [forceF, holdI, ih, fR_mk, hB_mk]
      cases al with
      | true => simp
      | false =>
        unfold ruleErr at h0
        simp only [Bool.false_eq_true, false_and, if_false, true_and] at h0
        have hv : validC 8 (.mk k c w kids) = true := by
          split at h0
          · cases h0
          · split at h0
            · cases h0
            · rename_i h1; simpa using h1
        have := forced_full hf 8 (.mk k c w kids) hv
        simp only [Bool.false_eq_true, if_false, Bool.false_or, hv, Bool.true_and, forcedP, if_true]
        by_cases hh : holdsF l 8 (.mk k c w kids) = true
        · rw [if_pos (this.2.2 hh), if_pos hh]
        · rw [if_neg (fun h => hh (this.2.1 h)), if_neg this.1, if_neg hh]
    · rename_i h0; exact absurd he h0

theorem holdI_ge (l : List Res) : ∀ (rs : List Rule) (i : Int), 0 ≤ i → -1 ≤ holdI l i rs
  | [], i, h => by simp [holdI]
  | r :: rs, i, h => by
    rw [holdI]
    split
    · omega
    · exact holdI_ge l rs (i + 1) (by omega)
theorem encRes_take (l : List Res) (i : Nat) : (encRes l).take i = encRes (l.take i) := by simp [encRes, List.map_take]
theorem encRes_drop (l : List Res) (i : Nat) : (encRes l).drop i = encRes (l.drop i) := by simp [encRes, List.map_drop]
theorem encRes_app (a b : List Res) : encRes (a ++ b) = encRes a ++ encRes b := by simp [encRes]

set_option maxHeartbeats 8000000 in
set_option maxRecDepth 100000 in
theorem DecideR_spec (rs : List Rule) (l : List Res) (hl : l.length ≤ 1000000) (hrs : rs.length ≤ 1000000) (hs : ∀ r, r ∈ rs → smallC (condR r)) (hfull : FullR l) :
    Spec Tryz.prog 11 [polAV rs, .d (.sl 2 (encRes l))] [] (fun r h' => r = .tup [decAV (decideF rs l).1, .d (.int .i64 (decideF rs l).2)] ∧ h' = []) := by
  have hv := ValidR_spec rs hs
  have hp := properR_spec l hl
  have hrg := forceF_range l rs 0
  have hvd := verdictR_spec rs (forceF l 0 rs) (by omega)
  have hlen := encRes_length l
  have hrlen := encRs_length rs
  have hfh : validPol rs = 0 → forceF l 0 rs = holdI l 0 rs := fun h => force_hold hfull rs 0 (by
    unfold validPol at h
    split at h
    · cases h
    · exact h)
  have hen := fun x (hx : x.length ≤ 1000000) => forces_spec rs x (forceF l 0 rs) hx hrs hs
  have hb : ∀ n : Nat, ((n : Int) != 13) = decide (n ≠ 13) := fun n => by rw [Bool.eq_iff_iff]; simp; omega
  unfold decideF decAV decCells
  unfold polAV at hv hvd hen ⊢
  generalize validPol rs = e at hv hfh
  generalize properF 0 l = pb at hp
  generalize verdF rs (forceF l 0 rs) = vd at hvd
  generalize hfin : minF rs (forceF l 0 rs) l.length l = fin
  refine Spec_of_body hT Tryz.func11 rfl rfl rfl rfl ?_
  intro E hE
  repeat (first | refine wk hT rfl rfl ?_ | refine wd hT rfl rfl rfl ?_ | refine wz hT rfl ?_ | refine AWd_nil ?_ | refine AWk_nil ?_ | refine wh hT rfl rfl rfl rfl ?_ | refine wg hT rfl rfl rfl rfl rfl ?_ | refine AW_seq ?_ | refine AW_region ?_ | refine wx mixed ?_ | refine AW_block ?_ | refine AW_skip ?_ | refine AW_exit ?_ | refine AW_ret ?_)
  first | refine AWk_op (callS0 rfl rfl (hv) rfl rfl rfl) rfl ?_ | refine AWd_op (callS0 rfl rfl (hv) rfl rfl rfl) rfl rfl ?_ | refine AWk_op (callS0L rfl rfl (hv) rfl (by repeat (first | exact trivial | exact AV.le.refl _ | exact AV.le.dat | exact AV.le.nils | exact AV.le.nilsf | exact AV.le.any _ | exact ObLe.refl _ | exact ⟨rfl, rfl⟩ | refine AV.le.tup ?_ | refine AV.le.agg ?_ | exact li | exact lb | exact ls | exact lk | exact ld | exact lz | refine ⟨?_, ?_⟩)) rfl rfl) rfl ?_ | refine AWd_op (callS0L rfl rfl (hv) rfl (by repeat (first | exact trivial | exact AV.le.refl _ | exact AV.le.dat | exact AV.le.nils | exact AV.le.nilsf | exact AV.le.any _ | exact ObLe.refl _ | exact ⟨rfl, rfl⟩ | refine AV.le.tup ?_ | refine AV.le.agg ?_ | exact li | exact lb | exact ls | exact lk | exact ld | exact lz | refine ⟨?_, ?_⟩)) rfl rfl) rfl rfl ?_
  repeat (first | refine wk hT rfl rfl ?_ | refine wd hT rfl rfl rfl ?_ | refine wz hT rfl ?_ | refine AWd_nil ?_ | refine AWk_nil ?_ | refine wh hT rfl rfl rfl rfl ?_ | refine wg hT rfl rfl rfl rfl rfl ?_ | refine AW_seq ?_ | refine AW_region ?_ | refine wx mixed ?_ | refine AW_block ?_ | refine AW_skip ?_ | refine AW_exit ?_ | refine AW_ret ?_)
  refine AW_condL rfl (fun h1 => ?_) (fun h1 => ?_)
  · have h1' : e ≠ 0 := by simpa using h1
    rw [if_pos h1']
    repeat (first | refine wk hT rfl rfl ?_ | refine wd hT rfl rfl rfl ?_ | refine wz hT rfl ?_ | refine AWd_nil ?_ | refine AWk_nil ?_ | refine wh hT rfl rfl rfl rfl ?_ | refine wg hT rfl rfl rfl rfl rfl ?_ | refine AW_seq ?_ | refine AW_region ?_ | refine wx mixed ?_ | refine AW_block ?_ | refine AW_skip ?_ | refine AW_exit ?_ | refine AW_ret ?_)
    first | exact rx ⟨rfl, rfl⟩ | exact rxN ⟨rfl, rfl⟩ | (refine rq ⟨rfl, rfl⟩ rfl ?_; repeat (first | exact trivial | exact AV.le.refl _ | exact AV.le.dat | exact AV.le.nils | exact AV.le.nilsf | exact AV.le.any _ | exact ObLe.refl _ | exact ⟨rfl, rfl⟩ | refine AV.le.tup ?_ | refine AV.le.agg ?_ | exact li | exact lb | exact ls | exact lk | exact ld | exact lz | refine ⟨?_, ?_⟩)) | (refine rqN ⟨rfl, rfl⟩ rfl ?_; repeat (first | exact trivial | exact AV.le.refl _ | exact AV.le.dat | exact AV.le.nils | exact AV.le.nilsf | exact AV.le.any _ | exact ObLe.refl _ | exact ⟨rfl, rfl⟩ | refine AV.le.tup ?_ | refine AV.le.agg ?_ | exact li | exact lb | exact ls | exact lk | exact ld | exact lz | refine ⟨?_, ?_⟩))
  · have h1' : ¬ e ≠ 0 := by simpa using h1
    rw [if_neg h1']
    repeat (first | refine wk hT rfl rfl ?_ | refine wd hT rfl rfl rfl ?_ | refine wz hT rfl ?_ | refine AWd_nil ?_ | refine AWk_nil ?_ | refine wh hT rfl rfl rfl rfl ?_ | refine wg hT rfl rfl rfl rfl rfl ?_ | refine AW_seq ?_ | refine AW_region ?_ | refine wx mixed ?_ | refine AW_block ?_ | refine AW_skip ?_ | refine AW_exit ?_ | refine AW_ret ?_)
    first | refine AWk_gop rfl rfl rfl (fun hg => ⟨(sg (C := True) hg).1, callS0 rfl rfl (hp) rfl rfl rfl⟩) ?_ | refine AWd_gop rfl rfl rfl rfl (fun hg => ⟨(sg (C := True) hg).1, callS0 rfl rfl (hp) rfl rfl rfl⟩) ?_
    repeat (first | refine wk hT rfl rfl ?_ | refine wd hT rfl rfl rfl ?_ | refine wz hT rfl ?_ | refine AWd_nil ?_ | refine AWk_nil ?_ | refine wh hT rfl rfl rfl rfl ?_ | refine wg hT rfl rfl rfl rfl rfl ?_ | refine AW_seq ?_ | refine AW_region ?_ | refine wx mixed ?_ | refine AW_block ?_ | refine AW_skip ?_ | refine AW_exit ?_ | refine AW_ret ?_)
    refine AW_condL rfl (fun h2 => ?_) (fun h2 => ?_)
    · have h2' : l.length ≠ 13 ∨ pb = false := by rw [hlen, hb] at h2; cases pb <;> simp at h2 ⊢; exact h2
      rw [if_pos h2']
      repeat (first | refine wk hT rfl rfl ?_ | refine wd hT rfl rfl rfl ?_ | refine wz hT rfl ?_ | refine AWd_nil ?_ | refine AWk_nil ?_ | refine wh hT rfl rfl rfl rfl ?_ | refine wg hT rfl rfl rfl rfl rfl ?_ | refine AW_seq ?_ | refine AW_region ?_ | refine wx mixed ?_ | refine AW_block ?_ | refine AW_skip ?_ | refine AW_exit ?_ | refine AW_ret ?_)
      first | exact rx ⟨rfl, rfl⟩ | exact rxN ⟨rfl, rfl⟩ | (refine rq ⟨rfl, rfl⟩ rfl ?_; repeat (first | exact trivial | exact AV.le.refl _ | exact AV.le.dat | exact AV.le.nils | exact AV.le.nilsf | exact AV.le.any _ | exact ObLe.refl _ | exact ⟨rfl, rfl⟩ | refine AV.le.tup ?_ | refine AV.le.agg ?_ | exact li | exact lb | exact ls | exact lk | exact ld | exact lz | refine ⟨?_, ?_⟩)) | (refine rqN ⟨rfl, rfl⟩ rfl ?_; repeat (first | exact trivial | exact AV.le.refl _ | exact AV.le.dat | exact AV.le.nils | exact AV.le.nilsf | exact AV.le.any _ | exact ObLe.refl _ | exact ⟨rfl, rfl⟩ | refine AV.le.tup ?_ | refine AV.le.agg ?_ | exact li | exact lb | exact ls | exact lk | exact ld | exact lz | refine ⟨?_, ?_⟩))
    · have h2' : ¬ (l.length ≠ 13 ∨ pb = false) := by rw [hlen, hb] at h2; cases pb <;> simp at h2 ⊢; exact h2
      rw [if_neg h2']
      have h13 : l.length = 13 := by omega
      have hfh := hfh (by simpa using h1)
      repeat (first | refine wk hT rfl rfl ?_ | refine wd hT rfl rfl rfl ?_ | refine wz hT rfl ?_ | refine AWd_nil ?_ | refine AWk_nil ?_ | refine wh hT rfl rfl rfl rfl ?_ | refine wg hT rfl rfl rfl rfl rfl ?_ | refine AW_seq ?_ | refine AW_region ?_ | refine wx mixed ?_ | refine AW_block ?_ | refine AW_skip ?_ | refine AW_exit ?_ | refine AW_ret ?_)
      refine AW_loopL (ι := Nat) (fun k => [(1, .d (.sl 2 (encRes l))), (2, .ptr 0 0), (4, .ptr 1 0), (7, .d (.int .i64 (holdI l k (rs.drop k)))), (8, .d (.int .i64 ((k : Int) - 1)))])
        (fun x => [.row [.d (.sl 6 (encRs rs))], .row [.d (.int .i64 0), .d (.int .i64 0), .sl 2 [] .full]]) (fun k => k ≤ rs.length) (fun k => k) rs.length (Nat.le_refl _)
        ⟨.refl _, .refl _, .refl _, .int (by rw [List.drop_length]; rfl), .int (by rw [hrlen, wrap_id (by omega)]), trivial⟩ (HLe.refl _) ?_
      intro k hk
      repeat (first | refine wk hT rfl rfl ?_ | refine wd hT rfl rfl rfl ?_ | refine wz hT rfl ?_ | refine AWd_nil ?_ | refine AWk_nil ?_ | refine wh hT rfl rfl rfl rfl ?_ | refine wg hT rfl rfl rfl rfl rfl ?_ | refine AW_seq ?_ | refine AW_region ?_ | refine wx mixed ?_ | refine AW_block ?_ | refine AW_skip ?_ | refine AW_exit ?_ | refine AW_ret ?_)
      refine AW_condL rfl (fun h3 => ?_) (fun h3 => ?_)
      · obtain ⟨k, rfl⟩ : ∃ k', k = k' + 1 := ⟨k - 1, by simp at h3; omega⟩
        have hk1 : (((k + 1 : Nat) : Int) - 1) = (k : Int) := by omega
        have hwm : IntKind.i64.wrap ((k : Int) - 1) = (k : Int) - 1 := wrap_id (by omega)
        have hlt : k < rs.length := hk
        have hel := encRs_at hlt
        have hdrop : rs.drop k = rs[k] :: rs.drop (k + 1) := by simp
        have hstep : holdI l (k : Int) (rs.drop k) = if hB l rs[k] = true then (k : Int) else holdI l (((k + 1 : Nat) : Int)) (rs.drop (k + 1)) := by rw [hdrop, holdI]; simp
        have hsm := hs rs[k] (List.getElem_mem hlt)
        rw [hk1]
        generalize holdI l (((k + 1 : Nat) : Int)) (rs.drop (k + 1)) = cur at hstep ⊢
        generalize rs[k] = r at hel hsm hstep
        obtain ⟨v, al, ⟨ck, cc, cw, kids⟩⟩ := r
        have hH := HoldsR_spec (.mk ck cc cw kids) l hl hsm
        rw [hB_mk] at hstep
        generalize (validC 8 (.mk ck cc cw kids) && holdsF l 8 (.mk ck cc cw kids)) = hb2 at hH hstep
        repeat (first | refine wk hT rfl rfl ?_ | refine wd hT rfl rfl rfl ?_ | refine wz hT rfl ?_ | refine AWd_nil ?_ | refine AWk_nil ?_ | refine wh hT rfl rfl rfl rfl ?_ | refine wg hT rfl rfl rfl rfl rfl ?_ | refine AW_seq ?_ | refine AW_region ?_ | refine wx mixed ?_ | refine AW_block ?_ | refine AW_skip ?_ | refine AW_exit ?_ | refine AW_ret ?_)
        first | refine AWk_op (OpS_of_pure (indexAddr_ok hT rfl rfl rfl rfl (by omega) (hel))) rfl ?_ | refine AWd_op (OpS_of_pure (indexAddr_ok hT rfl rfl rfl rfl (by omega) (hel))) rfl rfl ?_
        repeat (first | refine wk hT rfl rfl ?_ | refine wd hT rfl rfl rfl ?_ | refine wz hT rfl ?_ | refine AWd_nil ?_ | refine AWk_nil ?_ | refine wh hT rfl rfl rfl rfl ?_ | refine wg hT rfl rfl rfl rfl rfl ?_ | refine AW_seq ?_ | refine AW_region ?_ | refine wx mixed ?_ | refine AW_block ?_ | refine AW_skip ?_ | refine AW_exit ?_ | refine AW_ret ?_)
        first | refine AWk_gop rfl rfl rfl (fun hg => ⟨(sg (C := True) hg).1, OpS_of_pure (indexAddr_ok hT rfl rfl rfl rfl (by omega) (hel))⟩) ?_ | refine AWd_gop rfl rfl rfl rfl (fun hg => ⟨(sg (C := True) hg).1, OpS_of_pure (indexAddr_ok hT rfl rfl rfl rfl (by omega) (hel))⟩) ?_
        repeat (first | refine wk hT rfl rfl ?_ | refine wd hT rfl rfl rfl ?_ | refine wz hT rfl ?_ | refine AWd_nil ?_ | refine AWk_nil ?_ | refine wh hT rfl rfl rfl rfl ?_ | refine wg hT rfl rfl rfl rfl rfl ?_ | refine AW_seq ?_ | refine AW_region ?_ | refine wx mixed ?_ | refine AW_block ?_ | refine AW_skip ?_ | refine AW_exit ?_ | refine AW_ret ?_)
        refine AWk_gop rfl rfl rfl (fun hg' => ⟨by first | exact ⟨hg', hg', True.intro⟩ | exact (sg (C := True) hg').1, callS0 rfl rfl hH rfl rfl rfl⟩) ?_
        repeat (first | refine wk hT rfl rfl ?_ | refine wd hT rfl rfl rfl ?_ | refine wz hT rfl ?_ | refine AWd_nil ?_ | refine AWk_nil ?_ | refine wh hT rfl rfl rfl rfl ?_ | refine wg hT rfl rfl rfl rfl rfl ?_ | refine AW_seq ?_ | refine AW_region ?_ | refine wx mixed ?_ | refine AW_block ?_ | refine AW_skip ?_ | refine AW_exit ?_ | refine AW_ret ?_)
        refine AW_condL rfl (fun h4 => ?_) (fun h4 => ?_)
        · rw [if_pos h4] at hstep
          repeat (first | refine wk hT rfl rfl ?_ | refine wd hT rfl rfl rfl ?_ | refine wz hT rfl ?_ | refine AWd_nil ?_ | refine AWk_nil ?_ | refine wh hT rfl rfl rfl rfl ?_ | refine wg hT rfl rfl rfl rfl rfl ?_ | refine AW_seq ?_ | refine AW_region ?_ | refine wx mixed ?_ | refine AW_block ?_ | refine AW_skip ?_ | refine AW_exit ?_ | refine AW_ret ?_)
          exact ⟨k, by omega, by omega, ⟨.refl _, .refl _, .refl _, .int hstep.symm, .int hwm, trivial⟩, HLe.refl _⟩
        · rw [if_neg (by rw [h4]; simp)] at hstep
          repeat (first | refine wk hT rfl rfl ?_ | refine wd hT rfl rfl rfl ?_ | refine wz hT rfl ?_ | refine AWd_nil ?_ | refine AWk_nil ?_ | refine wh hT rfl rfl rfl rfl ?_ | refine wg hT rfl rfl rfl rfl rfl ?_ | refine AW_seq ?_ | refine AW_region ?_ | refine wx mixed ?_ | refine AW_block ?_ | refine AW_skip ?_ | refine AW_exit ?_ | refine AW_ret ?_)
          exact ⟨k, by omega, by omega, ⟨.refl _, .refl _, .refl _, .int hstep.symm, .int hwm, trivial⟩, HLe.refl _⟩
      · have hk0 : k = 0 := by simp at h3; omega
        subst hk0
        rw [List.drop_zero, show ((0 : Nat) : Int) = 0 from rfl, ← hfh]
        have hrule : -1 ≤ forceF l 0 rs := by rw [hfh]; exact holdI_ge l rs 0 (by omega)
        have hen2 : ∀ x : List Res, x.length ≤ 1000000 → Spec Tryz.prog 34 [.agg [.d (.sl 6 (encRs rs))], .d (.sl 2 (encRes x)), .d (.int .i64 (forceF l 0 rs))] [] (fun r h' => r = .d (.bool (decide (forceF x 0 rs = forceF l 0 rs))) ∧ h' = []) := fun x hx => by
          have := hen x hx
          rw [forcesF_eq x (forceF l 0 rs) hrule rs 0 (by omega)] at this
          exact this
        clear hen
        generalize forceF l 0 rs = rule at *
        repeat (first | refine wk hT rfl rfl ?_ | refine wd hT rfl rfl rfl ?_ | refine wz hT rfl ?_ | refine AWd_nil ?_ | refine AWk_nil ?_ | refine wh hT rfl rfl rfl rfl ?_ | refine wg hT rfl rfl rfl rfl rfl ?_ | refine AW_seq ?_ | refine AW_region ?_ | refine wx mixed ?_ | refine AW_block ?_ | refine AW_skip ?_ | refine AW_exit ?_ | refine AW_ret ?_)
        refine AWk_op (append_full (es := []) hT rfl rfl rfl (.inl rfl) rfl (by show (([] : List (List Dat)).length + (encRes l).length) * (16 + 1) ≤ 140737488355328; rw [hlen]; simp; omega)) rfl ?_
        repeat (first | refine wk hT rfl rfl ?_ | refine wd hT rfl rfl rfl ?_ | refine wz hT rfl ?_ | refine AWd_nil ?_ | refine AWk_nil ?_ | refine wh hT rfl rfl rfl rfl ?_ | refine wg hT rfl rfl rfl rfl rfl ?_ | refine AW_seq ?_ | refine AW_region ?_ | refine wx mixed ?_ | refine AW_block ?_ | refine AW_skip ?_ | refine AW_exit ?_ | refine AW_ret ?_)
        refine AW_loopC (ι := Nat × List Res) (fun x => [(2, .ptr 0 0), (4, .ptr 1 0), (7, .d (.int .i64 rule)), (9, .d (.sl 2 (encRes x.2))), (10, .d (.int .i64 ((x.1 : Int) - 1)))])
          (fun x => [.row [.d (.sl 6 (encRs rs))], .row [.d (.int .i64 0), .d (.int .i64 0), .sl 2 [] .full]]) (fun x => x.1 ≤ x.2.length ∧ x.2.length ≤ 1000000 ∧ minF rs rule x.1 x.2 = fin) (fun x => x.1) (l.length, l) ⟨Nat.le_refl _, hl, hfin⟩
          ⟨.refl _, .refl _, .refl _, .refl _, .int (by show IntKind.i64.wrap (((encRes l).length : Int) - 1) = _; rw [hlen, wrap_id (by omega)]), trivial⟩ (HLe.refl _) ?_
        rintro ⟨k, left⟩ ⟨i1, i2, i3⟩
        simp only at i1 i2 i3 ⊢
        have hll := encRes_length left
        repeat (first | refine wk hT rfl rfl ?_ | refine wd hT rfl rfl rfl ?_ | refine wz hT rfl ?_ | refine AWd_nil ?_ | refine AWk_nil ?_ | refine wh hT rfl rfl rfl rfl ?_ | refine wg hT rfl rfl rfl rfl rfl ?_ | refine AW_seq ?_ | refine AW_region ?_ | refine wx mixed ?_ | refine AW_block ?_ | refine AW_skip ?_ | refine AW_exit ?_ | refine AW_ret ?_)
        refine AW_condL rfl (fun h5 => ?_) (fun h5 => ?_)
        · obtain ⟨k, rfl⟩ : ∃ k', k = k' + 1 := ⟨k - 1, by simp at h5; omega⟩
          have hk1 : (((k + 1 : Nat) : Int) - 1) = (k : Int) := by omega
          have hwk : IntKind.i64.wrap ((k : Int) + 1) = ((k + 1 : Nat) : Int) := by rw [wrap_id (by omega)]; omega
          have hwm : IntKind.i64.wrap ((k : Int) - 1) = (k : Int) - 1 := wrap_id (by omega)
          have hle := List.length_eraseIdx_of_lt (l := left) (i := k) (by omega)
          have hen3 := hen2 (left.eraseIdx k) (by omega)
          have hcut : encRes (left.eraseIdx k) = (encRes left).take ((k : Int)).toNat ++ (encRes left).drop (IntKind.i64.wrap ((k : Int) + 1)).toNat := by
            rw [hwk, Int.toNat_natCast, Int.toNat_natCast, encRes_take, encRes_drop, ← encRes_app, List.eraseIdx_eq_take_drop_succ]
          rw [minF] at i3
          rw [hk1]
          refine AW_skip (AW_room ?_)
          repeat (first | refine wk hT rfl rfl ?_ | refine wd hT rfl rfl rfl ?_ | refine wz hT rfl ?_ | refine AWd_nil ?_ | refine AWk_nil ?_ | refine wh hT rfl rfl rfl rfl ?_ | refine wg hT rfl rfl rfl rfl rfl ?_ | refine AW_seq ?_ | refine AW_region ?_ | refine AW_block ?_ | refine AW_skip ?_ | refine AW_exit ?_ | refine AW_ret ?_)
          refine AW_drawG (fun i => bif Nat.beq i 4 || Nat.beq i 9 then [2] else []) (fun i => bif Nat.beq i 4 || Nat.beq i 9 then [2] else []) mixed (by kernel_rfl) ?_
          refine AWg_op (os := []) (fun k hk1 hk2 => buildSl_ok hT rfl rfl) rfl ?_
          repeat (first | refine AWg_load hT rfl rfl rfl rfl (by first | exact List.mem_cons_self | exact sm) rfl ?_ | refine AWg_pure hT (fun _ => rfl) rfl rfl (by first | exact True.intro | omega | exact sd) ?_ | refine AWg_store hT rfl rfl rfl (by first | exact List.mem_cons_self | exact sm) rfl ?_ | refine AWd_nil ?_)
          have htl : ((encRes left).take ((k : Int)).toNat).length ≤ 1000000 := by rw [List.length_take]; omega
          have hdl : ((encRes left).drop (IntKind.i64.wrap ((k : Int) + 1)).toNat).length ≤ 1000000 := by rw [List.length_drop]; omega
          have hC1 : 0 ≤ (k : Int) ∧ (k : Int) ≤ ((encRes left).length : Int) := by omega
          generalize hta : (encRes left).take ((k : Int)).toNat = ta at hcut htl
          generalize htb : (encRes left).drop (IntKind.i64.wrap ((k : Int) + 1)).toNat = tb at hcut hdl
          refine AWg_op (v := .sl 2 ta (.right 2)) (os := [.right 2 ta.length]) (fun kk hk1 hk2 => append_room0 (i := 2) hT rfl rfl rfl (.inl rfl) (by simp) ((hk2 2 List.mem_cons_self).trans rfl) (by rw [← hta]; rfl) (by show ta.length * (16 + 1) ≤ _; omega)) rfl ?_
          repeat (first | refine AWg_load hT rfl rfl rfl rfl (by first | exact List.mem_cons_self | exact sm) rfl ?_ | refine AWg_pure hT (fun _ => rfl) rfl rfl (by first | exact True.intro | omega | exact sd) ?_ | refine AWg_store hT rfl rfl rfl (by first | exact List.mem_cons_self | exact sm) rfl ?_ | refine AWd_nil ?_)
          refine AWg_op (v := .sl 2 (ta ++ tb) (.right 2)) (os := [.right 2 (ta ++ tb).length]) (fun kk hk1 hk2 => append_rightL (i := 2) hT rfl rfl rfl rfl ((hk2 2 List.mem_cons_self).trans rfl) (by rw [← htb]; rfl) (by show (ta.length + tb.length) * (16 + 1) ≤ _; omega)) rfl ?_
          rw [← hcut]
          repeat (first | refine AWg_load hT rfl rfl rfl rfl (by first | exact List.mem_cons_self | exact sm) rfl ?_ | refine AWg_pure hT (fun _ => rfl) rfl rfl (by first | exact True.intro | omega | exact sd) ?_ | refine AWg_store hT rfl rfl rfl (by first | exact List.mem_cons_self | exact sm) rfl ?_ | refine AWd_nil ?_)
          refine AW_subL (l := [(2, .ptr 0 0), (4, .ptr 1 0), (7, .d (.int .i64 rule)), (9, .d (.sl 2 (encRes left))), (10, .d (.int .i64 (k : Int))), (11, .d (.sl 2 (encRes (left.eraseIdx k))))])
            (h' := [.row [.d (.sl 6 (encRs rs))], .row [.d (.int .i64 0), .d (.int .i64 0), .sl 2 [] .full], .right 2 (encRes (left.eraseIdx k)).length]) ⟨.refl _, .refl _, .refl _, .refl _, .refl _, .dat, trivial⟩ (HLe.refl _) ?_
          repeat (first | refine wk hT rfl rfl ?_ | refine wd hT rfl rfl rfl ?_ | refine wz hT rfl ?_ | refine AWd_nil ?_ | refine AWk_nil ?_ | refine wh hT rfl rfl rfl rfl ?_ | refine wg hT rfl rfl rfl rfl rfl ?_ | refine AW_seq ?_ | refine AW_region ?_ | refine wx mixed ?_ | refine AW_block ?_ | refine AW_skip ?_ | refine AW_exit ?_ | refine AW_ret ?_)
          first | refine AWk_op (callS0 rfl rfl (hen3) rfl rfl rfl) rfl ?_ | refine AWd_op (callS0 rfl rfl (hen3) rfl rfl rfl) rfl rfl ?_ | refine AWk_op (callS0L rfl rfl (hen3) rfl (by repeat (first | exact trivial | exact AV.le.refl _ | exact AV.le.dat | exact AV.le.nils | exact AV.le.nilsf | exact AV.le.any _ | exact ObLe.refl _ | exact ⟨rfl, rfl⟩ | refine AV.le.tup ?_ | refine AV.le.agg ?_ | exact li | exact lb | exact ls | exact lk | exact ld | exact lz | refine ⟨?_, ?_⟩)) rfl rfl) rfl ?_ | refine AWd_op (callS0L rfl rfl (hen3) rfl (by repeat (first | exact trivial | exact AV.le.refl _ | exact AV.le.dat | exact AV.le.nils | exact AV.le.nilsf | exact AV.le.any _ | exact ObLe.refl _ | exact ⟨rfl, rfl⟩ | refine AV.le.tup ?_ | refine AV.le.agg ?_ | exact li | exact lb | exact ls | exact lk | exact ld | exact lz | refine ⟨?_, ?_⟩)) rfl rfl) rfl rfl ?_
          repeat (first | refine wk hT rfl rfl ?_ | refine wd hT rfl rfl rfl ?_ | refine wz hT rfl ?_ | refine AWd_nil ?_ | refine AWk_nil ?_ | refine wh hT rfl rfl rfl rfl ?_ | refine wg hT rfl rfl rfl rfl rfl ?_ | refine AW_seq ?_ | refine AW_region ?_ | refine wx mixed ?_ | refine AW_block ?_ | refine AW_skip ?_ | refine AW_exit ?_ | refine AW_ret ?_)
          refine AW_condL rfl (fun h6 => ?_) (fun h6 => ?_)
          · have h6' := of_decide_eq_true h6
            rw [if_pos h6'] at i3
            repeat (first | refine wk hT rfl rfl ?_ | refine wd hT rfl rfl rfl ?_ | refine wz hT rfl ?_ | refine AWd_nil ?_ | refine AWk_nil ?_ | refine wh hT rfl rfl rfl rfl ?_ | refine wg hT rfl rfl rfl rfl rfl ?_ | refine AW_seq ?_ | refine AW_region ?_ | refine wx mixed ?_ | refine AW_block ?_ | refine AW_skip ?_ | refine AW_exit ?_ | refine AW_ret ?_)
            exact ⟨(k, left.eraseIdx k), [_], ⟨by simp only; omega, by simp only; omega, i3⟩, by simp only; omega, ⟨.refl _, .refl _, .refl _, .refl _, .int hwm, trivial⟩, HLe.refl _, Env.below_mono hE (by simp), rfl, rfl⟩
          · have h6' := of_decide_eq_false h6
            rw [if_neg h6'] at i3
            repeat (first | refine wk hT rfl rfl ?_ | refine wd hT rfl rfl rfl ?_ | refine wz hT rfl ?_ | refine AWd_nil ?_ | refine AWk_nil ?_ | refine wh hT rfl rfl rfl rfl ?_ | refine wg hT rfl rfl rfl rfl rfl ?_ | refine AW_seq ?_ | refine AW_region ?_ | refine wx mixed ?_ | refine AW_block ?_ | refine AW_skip ?_ | refine AW_exit ?_ | refine AW_ret ?_)
            exact ⟨(k, left), [_], ⟨by simp only; omega, i2, i3⟩, by simp only; omega, ⟨.refl _, .refl _, .refl _, .refl _, .int hwm, trivial⟩, HLe.refl _, Env.below_mono hE (by simp), rfl, rfl⟩
        · have hk0 : k = 0 := by simp at h5; omega
          subst hk0
          rw [minF] at i3
          subst i3
          repeat (first | refine wk hT rfl rfl ?_ | refine wd hT rfl rfl rfl ?_ | refine wz hT rfl ?_ | refine AWd_nil ?_ | refine AWk_nil ?_ | refine wh hT rfl rfl rfl rfl ?_ | refine wg hT rfl rfl rfl rfl rfl ?_ | refine AW_seq ?_ | refine AW_region ?_ | refine wx mixed ?_ | refine AW_block ?_ | refine AW_skip ?_ | refine AW_exit ?_ | refine AW_ret ?_)
          first | refine AWk_op (callS0 rfl rfl (hvd) rfl rfl rfl) rfl ?_ | refine AWd_op (callS0 rfl rfl (hvd) rfl rfl rfl) rfl rfl ?_ | refine AWk_op (callS0L rfl rfl (hvd) rfl (by repeat (first | exact trivial | exact AV.le.refl _ | exact AV.le.dat | exact AV.le.nils | exact AV.le.nilsf | exact AV.le.any _ | exact ObLe.refl _ | exact ⟨rfl, rfl⟩ | refine AV.le.tup ?_ | refine AV.le.agg ?_ | exact li | exact lb | exact ls | exact lk | exact ld | exact lz | refine ⟨?_, ?_⟩)) rfl rfl) rfl ?_ | refine AWd_op (callS0L rfl rfl (hvd) rfl (by repeat (first | exact trivial | exact AV.le.refl _ | exact AV.le.dat | exact AV.le.nils | exact AV.le.nilsf | exact AV.le.any _ | exact ObLe.refl _ | exact ⟨rfl, rfl⟩ | refine AV.le.tup ?_ | refine AV.le.agg ?_ | exact li | exact lb | exact ls | exact lk | exact ld | exact lz | refine ⟨?_, ?_⟩)) rfl rfl) rfl rfl ?_
          repeat (first | refine wk hT rfl rfl ?_ | refine wd hT rfl rfl rfl ?_ | refine wz hT rfl ?_ | refine AWd_nil ?_ | refine AWk_nil ?_ | refine wh hT rfl rfl rfl rfl ?_ | refine wg hT rfl rfl rfl rfl rfl ?_ | refine AW_seq ?_ | refine AW_region ?_ | refine wx mixed ?_ | refine AW_block ?_ | refine AW_skip ?_ | refine AW_exit ?_ | refine AW_ret ?_)
          first | exact rx ⟨rfl, rfl⟩ | exact rxN ⟨rfl, rfl⟩ | (refine rq ⟨rfl, rfl⟩ rfl ?_; repeat (first | exact trivial | exact AV.le.refl _ | exact AV.le.dat | exact AV.le.nils | exact AV.le.nilsf | exact AV.le.any _ | exact ObLe.refl _ | exact ⟨rfl, rfl⟩ | refine AV.le.tup ?_ | refine AV.le.agg ?_ | exact li | exact lb | exact ls | exact lk | exact ld | exact lz | refine ⟨?_, ?_⟩)) | (refine rqN ⟨rfl, rfl⟩ rfl ?_; repeat (first | exact trivial | exact AV.le.refl _ | exact AV.le.dat | exact AV.le.nils | exact AV.le.nilsf | exact AV.le.any _ | exact ObLe.refl _ | exact ⟨rfl, rfl⟩ | refine AV.le.tup ?_ | refine AV.le.agg ?_ | exact li | exact lb | exact ls | exact lk | exact ld | exact lz | refine ⟨?_, ?_⟩))
end Tdoc
