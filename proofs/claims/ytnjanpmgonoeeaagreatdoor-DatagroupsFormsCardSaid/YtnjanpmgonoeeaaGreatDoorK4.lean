/- Lists of numbers that rise; Common. -/
import Derived.Test.YtnjanpmgonoeeaaGreatDoorK3
import Derived.Test.YtnjanpmgonoeeaaGreatDoorK2
set_option linter.unusedVariables false
set_option linter.unusedSimpArgs false
namespace Tdoc
open Go Go.Proofs

def encI (l : List Int) : List (List Dat) := l.map fun n => [.int .i64 n]
theorem encI_length (l : List Int) : (encI l).length = l.length := by simp [encI]
theorem encI_append (a b : List Int) : encI (a ++ b) = encI a ++ encI b := by simp [encI]
theorem encI_at {l : List Int} {i : Nat} (h : i < l.length) : (encI l)[((i : Int)).toNat]? = some [.int .i64 l[i]] := by simp [encI, h]
def ascX : Int → List Int → Int
  | _, [] => 0
  | bf, n :: l => if n < 1 ∨ n > 16 then 3 else if n ≤ bf then 17 else ascX n l

set_option maxHeartbeats 4000000 in
set_option maxRecDepth 100000 in
theorem ascending_spec (l : List Int) (hl : l.length ≤ 9223372036854775807) : Spec Tryz.prog 106 [.d (.sl 1 (encI l))] [] (fun r h' => r = .d (.int .i64 (ascX 0 l)) ∧ h' = []) := by
  have hlen := encI_length l
  refine Spec_of_body hT Tryz.func106 rfl rfl rfl rfl ?_
  intro E hE
  generalize hfin : ascX 0 l = fin
  refine ww ?_
  refine AW_loopL (ι := Nat × Int) (fun x => [(3, .d (.int .i64 x.2)), (6, .d (.sl 1 (encI l))), (7, .d (.int .i64 ((encI l).length : Int))), (8, .d (.int .i64 (x.1 : Int)))]) (fun _ => []) (fun x => x.1 ≤ l.length ∧ ascX x.2 (l.drop x.1) = fin) (fun x => l.length - x.1) (0, 0) ⟨by simp, by simpa using hfin⟩
    ⟨.refl _, .refl _, .refl _, .refl _, trivial⟩ (HLe.refl _) ?_
  rintro ⟨i, bf⟩ ⟨hi, hg⟩
  simp only at hi hg ⊢
  refine ww ?_
  refine AW_condL rfl (fun h1 => ?_) (fun h1 => ?_)
  · have h1' : i < l.length := by rw [hlen] at h1; simpa using h1
    have hwr : IntKind.i64.wrap ((i : Int) + 1) = ((i + 1 : Nat) : Int) := by rw [wrap_id (by omega)]; simp
    have hdrop : l.drop i = l[i] :: l.drop (i + 1) := by simp
    have hel := encI_at h1'
    rw [hdrop, ascX] at hg
    generalize l[i] = x at hel hg
    refine ww ?_
    refine AWk_op (OpS_of_pure (indexAddr_ok hT rfl rfl rfl rfl (by omega) hel)) rfl ?_
    refine ww ?_
    refine AW_condL rfl (fun h2 => ?_) (fun h2 => ?_)
    · have h2' : x < 1 ∨ x > 16 := by simpa using h2
      rw [if_pos h2'] at hg
      subst hg
      refine ww ?_
      exact ret_exact rfl (.refl _) rfl rfl rfl rfl ⟨rfl, rfl⟩
    · have h2' : ¬ (x < 1 ∨ x > 16) := by simpa using h2
      rw [if_neg h2'] at hg
      refine ww ?_
      refine AW_condL rfl (fun h3 => ?_) (fun h3 => ?_)
      · have h3' : x ≤ bf := by simpa using h3
        rw [if_pos h3'] at hg
        subst hg
        refine ww ?_
        exact ret_exact rfl (.refl _) rfl rfl rfl rfl ⟨rfl, rfl⟩
      · have h3' : ¬ x ≤ bf := by simpa using h3
        rw [if_neg h3'] at hg
        refine ww ?_
        exact ⟨(i + 1, x), ⟨by simp only; omega, hg⟩, by simp only; omega, ⟨.refl _, .refl _, .refl _, AV.le.eq (congrArg (fun z => AV.d (.int .i64 z)) hwr), trivial⟩, HLe.refl _⟩
  · have hge : i = l.length := by rw [hlen] at h1; simp at h1; omega
    subst hge
    rw [List.drop_length, ascX] at hg
    subst hg
    refine ww ?_
    exact ret_exact rfl (.refl _) rfl rfl rfl rfl ⟨rfl, rfl⟩

theorem ascX_range : ∀ (bf : Int) (l : List Int), ascX bf l = 0 → ∀ n, n ∈ l → 1 ≤ n ∧ n ≤ 16
  | _, [], _, n, h => by cases h
  | bf, a :: l, h0, n, hn => by
    rw [ascX] at h0
    split at h0
    · simp at h0
    · split at h0
      · simp at h0
      · cases hn with
        | head => omega
        | tail _ hn => exact ascX_range a l h0 n hn

theorem ascX_len16 : ∀ (bf : Int) (l : List Int), ascX bf l = 0 → bf ≤ 16 → (l.length : Int) + bf ≤ 16
  | _, [], _, h => by simpa using h
  | bf, a :: l, h0, hb => by
    rw [ascX] at h0
    split at h0
    · simp at h0
    · split at h0
      · simp at h0
      · have := ascX_len16 a l h0 (by omega)
        simp only [List.length_cons]; omega

def tagByte (n : Int) : UInt8 := UInt8.ofNat ((tagTab[(n - 1).toNat]?).getD 0).toNat
def commonP (l : List Int) : List UInt8 × Int :=
  if ascX 0 l ≠ 0 then ([], ascX 0 l) else wrapG 17 [.mk 24321 [48, 49, 48, 56] [], .mk 24374 [48, 52, 48, 48, 48, 48] [], .mk 92 (l.map tagByte) []]
end Tdoc
/- Common of the program. -/
set_option linter.unusedVariables false
set_option linter.unusedSimpArgs false
namespace Tdoc
open Go Go.Proofs

def cmnKids (l : List Int) : List Node := [.mk 24321 [48, 49, 48, 56] [], .mk 24374 [48, 52, 48, 48, 48, 48] [], .mk 92 (l.map tagByte) []]
theorem wrL_cons_length (t : Int) (v : List UInt8) (k r : List Node) : (wrL (.mk t v k :: r)).length ≤ 11 + v.length + (wrL k).length + (wrL r).length := by
  have h1 := wrL_one_le t v k
  have h2 := congrArg List.length (wrL_append [.mk t v k] r)
  rw [List.length_append] at h2
  have h3 : [Node.mk t v k] ++ r = .mk t v k :: r := rfl
  rw [h3] at h2
  omega
theorem tagTab_range : ∀ y, y ∈ tagTab → 0 ≤ y ∧ y ≤ 255 := by decide

set_option maxHeartbeats 4000000 in
set_option maxRecDepth 100000 in
theorem Common_spec (l : List Int) (hl : l.length ≤ 9223372036854775807) : Spec Tryz.prog 50 [.d (.sl 1 (encI l))] [] (fun r h' => r = .tup [.d (.sl 1 (encB (commonP l).1)), .d (.int .i64 (commonP l).2)] ∧ h' = []) := by
  have hlen := encI_length l
  have hasc := ascending_spec l (by omega)
  have hrg := ascX_range 0 l
  have h16 := ascX_len16 0 l
  have hwrap := fun (h0 : l.length ≤ 16) => Wrap_spec 17 (by omega) (cmnKids l) (by simp [cmnKids]) ⟨⟨by omega, by simp, by simp, trivial⟩, ⟨by omega, by simp, by simp, trivial⟩, ⟨by omega, by simp; omega, by simp, trivial⟩, trivial⟩ (by simp [cmnKids, sizeL, sizeN]) (by
    have h1 := wrL_cons_length 24321 [48, 49, 48, 56] [] [.mk 24374 [48, 52, 48, 48, 48, 48] [], .mk 92 (l.map tagByte) []]
    have h2 := wrL_cons_length 24374 [48, 52, 48, 48, 48, 48] [] [.mk 92 (l.map tagByte) []]
    have h3 := wrL_one_le 92 (l.map tagByte) []
    simp only [wrL, List.length_cons, List.length_nil, List.length_map] at h1 h2 h3 ⊢
    simp only [cmnKids, wrL] at *
    omega)
  unfold commonP
  generalize ascX 0 l = e at hasc hrg h16
  refine Spec_of_body hT Tryz.func50 rfl rfl rfl rfl ?_
  intro E hE
  refine AW_room ?_
  refine ww ?_
  refine AWk_op (callS0 rfl rfl hasc rfl rfl rfl) rfl ?_
  refine ww ?_
  refine AW_condL rfl (fun h1 => ?_) (fun h1 => ?_)
  · have h1' : e ≠ 0 := by simpa using h1
    rw [if_pos h1']
    refine ww ?_
    exact ret_exact (r := .tup [.d (.sl 1 (encB [])), .d (.int .i64 e)]) rfl (AV.le.tup ⟨AV.le.nils, .refl _, trivial⟩) rfl rfl rfl rfl ⟨rfl, rfl⟩
  · have h1' : ¬ e ≠ 0 := by simpa using h1
    have hrg := hrg (by simpa using h1)
    rw [if_neg h1']
    have hl16 : l.length ≤ 16 := by have := h16 (by simpa using h1) (by omega); omega
    have hwrap := hwrap hl16
    refine wwe ?_
    refine AW_seq (AW_region ?_)
    refine wws ?_
    refine AW_acquireAt 5 1 0 (es := []) (.inr ⟨rfl, rfl⟩) rfl ?_
    refine ww ?_
    refine AW_loopL (ι := Nat) (fun i => [(5, .sl 1 (encB ((l.take i).map tagByte)) (.right 0)), (13, .d (.sl 1 (encI l))), (14, .d (.int .i64 ((encI l).length : Int))), (15, .d (.int .i64 (i : Int)))]) (fun i => [.right 1 (encB ((l.take i).map tagByte)).length]) (fun i => i ≤ l.length) (fun i => l.length - i) 0 (by omega)
      ⟨.refl _, .refl _, .refl _, .refl _, trivial⟩ (HLe.refl _) ?_
    intro i hi
    have hwr : IntKind.i64.wrap ((i : Int) + 1) = ((i + 1 : Nat) : Int) := by rw [wrap_id (by omega)]; simp
    refine ww ?_
    refine AW_condL rfl (fun h2 => ?_) (fun h2 => ?_)
    · have h2' : i < l.length := by rw [hlen] at h2; simpa using h2
      have hel := encI_at h2'
      have hr := hrg l[i] (List.getElem_mem h2')
      have hsucc : (l.take (i + 1)).map tagByte = (l.take i).map tagByte ++ [tagByte l[i]] := by rw [List.take_succ_eq_append_getElem h2', List.map_append]; rfl
      generalize l[i] = x at hel hr hsucc
      have hwx : IntKind.i64.wrap (x - 1) = x - 1 := wrap_id (by omega)
      obtain ⟨y, hy, hd, _⟩ := tagD_at (i := (x - 1).toNat) (by omega)
      have hyr := tagTab_range y (List.mem_of_getElem? hy)
      have htb : tagByte x = UInt8.ofNat y.toNat := by unfold tagByte; rw [hy]; rfl
      have hw8 : IntKind.u8.wrap y = ((UInt8.ofNat y.toNat).toNat : Int) := by rw [wrapu8 hyr, toNat_ofNat (by omega)]; omega
      have hol := encB_length ((l.take i).map tagByte)
      rw [List.length_map, List.length_take] at hol
      refine AW_skip ?_
      refine AW_seq (AW_block (AW_seq (AW_region ?_)))
      refine AWk_op (OpS_of_pure (indexAddr_ok hT rfl rfl rfl rfl (by omega) hel)) rfl ?_
      refine ww ?_
      refine AWk_op (OpS_of_pure (arrAddr_ok (cs := tagD) hT rfl rfl rfl rfl (by rw [hwx]; omega))) rfl ?_
      rw [hwx, Nat.mul_one]
      generalize tagD.drop (x - 1).toNat = cs at hd
      match cs, hd with
      | d :: cs, hd =>
        simp only [List.getElem?_cons_zero, Option.some.injEq] at hd
        subst hd
        refine ww ?_
        refine AWk_op (append_rightL (i := 0) hT rfl rfl rfl rfl rfl rfl (by show ((encB ((l.take i).map tagByte)).length + 1) * (1 + 1) ≤ _; omega)) rfl ?_
        refine ww ?_
        have hres : encB ((l.take (i + 1)).map tagByte) = encB ((l.take i).map tagByte) ++ [[Dat.int .u8 (IntKind.u8.wrap y)]] := by rw [hsucc, encB_append, htb, hw8]; rfl
        exact ⟨i + 1, by omega, by omega, ⟨AV.le.eq (by rw [hres]; rfl), .refl _, .refl _, AV.le.eq (congrArg (fun z => AV.d (.int .i64 z)) hwr), trivial⟩, ⟨⟨rfl, by rw [hres]⟩, trivial⟩⟩
    · have hge : i = l.length := by rw [hlen] at h2; simp at h2; omega
      subst hge
      rw [List.take_length]
      refine wwe ?_
      refine AW_seq (AW_regionAt [] _ rfl ?_)
      refine AWw_constBytes hT rfl rfl rfl rfl ?_
      refine AWw_one ?_
      refine wws ?_
      refine AWw_constBytes hT rfl rfl rfl rfl ?_
      refine AWw_of ?_
      refine wws ?_
      refine AWk_op (callS0L rfl rfl hwrap rfl (by exact ⟨.refl _, AV.le.trans AV.le.dat (AV.le.eq rfl), trivial⟩) rfl rfl) rfl ?_
      refine ww ?_
      exact ret_exact rfl (.refl _) rfl rfl rfl rfl ⟨rfl, rfl⟩
end Tdoc
/- Open and open of the program. -/
set_option linter.unusedVariables false
set_option linter.unusedSimpArgs false
namespace Tdoc
open Go Go.Proofs

/-- What is opened: the group's number, the objects, an error's number. -/
def openX (b : List UInt8) : Int × List Node × Int :=
  if (parseX b false).2 ≠ 0 then (0, [], (parseX b false).2) else match (parseX b false).1 with
    | [.mk t v k] => if (groupR t).2 ≠ 0 then (0, [], (groupR t).2) else ((groupR t).1, k, 0)
    | _ => (0, [], 1)
def openY (b : List UInt8) (n : Int) : List Node × Int :=
  if (openX b).2.2 ≠ 0 then ([], (openX b).2.2) else if (openX b).1 ≠ n then ([], 4) else ((openX b).2.1, 0)

set_option maxHeartbeats 4000000 in
set_option maxRecDepth 100000 in
theorem Open_spec (b : List UInt8) (hb : b.length ≤ 1000000) : Spec Tryz.prog 15 [.d (.sl 1 (encB b))] []
    (fun r h' => r = .tup [.d (.int .i64 (openX b).1), .d (.sl 3 (encNs (openX b).2.1)), .d (.int .i64 (openX b).2.2)] ∧ h' = []) := by
  have hps := Parse_spec b false hb
  unfold openX
  generalize parseX b false = q at hps
  obtain ⟨l, e⟩ := q
  simp only at hps ⊢
  have hlen := encNs_length l
  refine Spec_of_body hT Tryz.func15 rfl rfl rfl rfl ?_
  intro E hE
  refine ww ?_
  refine AWk_op (callS0 rfl rfl hps rfl rfl rfl) rfl ?_
  refine ww ?_
  refine AW_condL rfl (fun h1 => ?_) (fun h1 => ?_)
  · have h1' : e ≠ 0 := by simpa using h1
    rw [if_pos h1']
    refine ww ?_
    exact ret_exact (r := .tup [.d (.int .i64 0), .d (.sl 3 (encNs [])), .d (.int .i64 e)]) rfl (AV.le.tup ⟨.refl _, AV.le.nils, .refl _, trivial⟩) rfl rfl rfl rfl ⟨rfl, rfl⟩
  · have h1' : ¬ e ≠ 0 := by simpa using h1
    rw [if_neg h1']
    refine ww ?_
    refine AW_condL rfl (fun h2 => ?_) (fun h2 => ?_)
    · have h2' : l.length ≠ 1 := by rw [hlen] at h2; simp at h2; omega
      refine ww ?_
      refine ret_exact (r := .tup [.d (.int .i64 0), .d (.sl 3 (encNs [])), .d (.int .i64 1)]) rfl (AV.le.tup ⟨.refl _, AV.le.nils, .refl _, trivial⟩) rfl rfl rfl rfl ⟨?_, rfl⟩
      match l, h2' with
      | [], _ => rfl
      | [a], h => exact absurd rfl h
      | .mk _ _ _ :: c :: r, _ => rfl
    · have h2' : l.length = 1 := by rw [hlen] at h2; simp at h2; omega
      match l, h2' with
      | [.mk t v k], _ =>
        have hgr := Group_spec t
        simp only
        generalize groupR t = g at hgr
        obtain ⟨g, f⟩ := g
        simp only at hgr ⊢
        have hel : (encNs [.mk t v k])[((0 : Int)).toNat]? = some [.int .i64 t, .sl 1 (encB v), .sl 3 (encNs k)] := rfl
        refine ww ?_
        refine AWk_op (OpS_of_pure (indexAddr_ok hT rfl rfl rfl rfl (by omega) hel)) rfl ?_
        refine ww ?_
        refine AWk_op (callS0 rfl rfl hgr rfl rfl rfl) rfl ?_
        refine ww ?_
        refine AW_condL rfl (fun h3 => ?_) (fun h3 => ?_)
        · have h3' : f ≠ 0 := by simpa using h3
          rw [if_pos h3']
          refine ww ?_
          exact ret_exact (r := .tup [.d (.int .i64 0), .d (.sl 3 (encNs [])), .d (.int .i64 f)]) rfl (AV.le.tup ⟨.refl _, AV.le.nils, .refl _, trivial⟩) rfl rfl rfl rfl ⟨rfl, rfl⟩
        · have h3' : ¬ f ≠ 0 := by simpa using h3
          rw [if_neg h3']
          refine ww ?_
          refine AWd_op (OpS_of_pure (indexAddr_ok hT rfl rfl rfl rfl (by omega) hel)) rfl rfl ?_
          refine ww ?_
          exact ret_exact rfl (.refl _) rfl rfl rfl rfl ⟨rfl, rfl⟩

set_option maxHeartbeats 4000000 in
set_option maxRecDepth 100000 in
theorem open_spec (b : List UInt8) (n : Int) (hb : b.length ≤ 1000000) : Spec Tryz.prog 87 [.d (.sl 1 (encB b)), .d (.int .i64 n)] []
    (fun r h' => r = .tup [.d (.sl 3 (encNs (openY b n).1)), .d (.int .i64 (openY b n).2)] ∧ h' = []) := by
  have hps := Open_spec b hb
  unfold openY
  generalize openX b = q at hps
  obtain ⟨g, l, e⟩ := q
  simp only at hps ⊢
  refine Spec_of_body hT Tryz.func87 rfl rfl rfl rfl ?_
  intro E hE
  refine ww ?_
  refine AWk_op (callS0 rfl rfl hps rfl rfl rfl) rfl ?_
  refine ww ?_
  refine AW_condL rfl (fun h1 => ?_) (fun h1 => ?_)
  · have h1' : e = 0 ∧ g ≠ n := by simpa using h1
    rw [if_neg (by omega), if_pos h1'.2]
    refine ww ?_
    refine AW_condL rfl (fun h2 => ?_) (fun h2 => ?_)
    · refine ww ?_
      exact ret_exact (r := .tup [.d (.sl 3 (encNs [])), .d (.int .i64 4)]) rfl (AV.le.tup ⟨AV.le.nils, .refl _, trivial⟩) rfl rfl rfl rfl ⟨rfl, rfl⟩
    · exact absurd h2 (by decide)
  · have h1' : ¬ (e = 0 ∧ g ≠ n) := by simpa using h1
    refine ww ?_
    refine AW_condL rfl (fun h2 => ?_) (fun h2 => ?_)
    · have h2' : e ≠ 0 := by simpa using h2
      rw [if_pos h2']
      refine ww ?_
      exact ret_exact (r := .tup [.d (.sl 3 (encNs [])), .d (.int .i64 e)]) rfl (AV.le.tup ⟨AV.le.nils, .refl _, trivial⟩) rfl rfl rfl rfl ⟨rfl, rfl⟩
    · have h2' : ¬ e ≠ 0 := by simpa using h2
      rw [if_neg h2', if_neg (fun hh => h1' ⟨by omega, hh⟩)]
      refine ww ?_
      exact ret_exact rfl (.refl _) rfl rfl rfl rfl ⟨rfl, rfl⟩
end Tdoc
/- Groups of the program. -/
set_option linter.unusedVariables false
set_option linter.unusedSimpArgs false
namespace Tdoc
open Go Go.Proofs

def grpLoop : List UInt8 → List Int → List Int × Int
  | [], out => (out, 0)
  | c :: r, out => if (groupR c.toNat).2 ≠ 0 ∨ (groupR c.toNat).1 > 16 then ([], 4) else if ascX 0 (out ++ [(groupR c.toNat).1]) ≠ 0 then ([], ascX 0 (out ++ [(groupR c.toNat).1])) else grpLoop r (out ++ [(groupR c.toNat).1])
def groupsX (b : List UInt8) : List Int × Int :=
  if (openY b 17).2 ≠ 0 then ([], (openY b 17).2) else match (openY b 17).1 with
    | [.mk t0 v0 _, .mk t1 v1 _, .mk t2 v2 _] => if t0 ≠ 24321 ∨ v0 ≠ [48, 49, 48, 56] ∨ t1 ≠ 24374 ∨ v1 ≠ [48, 52, 48, 48, 48, 48] ∨ t2 ≠ 92 then ([], 1) else grpLoop v2 []
    | _ => ([], 1)

theorem byteCells_encB (v : List UInt8) : byteCells (encB v) := fun e he => by
  unfold encB at he
  obtain ⟨x, _, rfl⟩ := List.mem_map.1 he
  exact ⟨_, rfl⟩
theorem bytesOf_encB (v : List UInt8) : bytesOf (encB v) = v := by
  unfold bytesOf encB
  rw [List.map_map]
  conv => rhs; rw [← List.map_id v]
  apply List.map_congr_left
  intro x _
  show UInt8.ofNat ((x.toNat : Int)).toNat = x
  simp

theorem ascX_len : ∀ (bf : Int) (l : List Int), bf ≤ 16 → ascX bf l = 0 → bf + l.length ≤ 16
  | bf, [], h, _ => by simpa using h
  | bf, n :: l, h, h0 => by
    rw [ascX] at h0
    split at h0
    · simp at h0
    · split at h0
      · simp at h0
      · have := ascX_len n l (by omega) h0
        simp only [List.length_cons]; omega

set_option maxHeartbeats 8000000 in
set_option maxRecDepth 100000 in
theorem Groups_spec (b : List UInt8) (hb : b.length ≤ 1000000) : Spec Tryz.prog 51 [.d (.sl 1 (encB b))] []
    (fun r h' => r = .tup [.d (.sl 1 (encI (groupsX b).1)), .d (.int .i64 (groupsX b).2)] ∧ h' = []) := by
  have hop := open_spec b 17 hb
  unfold groupsX
  generalize openY b 17 = q at hop
  obtain ⟨l, e⟩ := q
  simp only at hop ⊢
  have hlen := encNs_length l
  refine Spec_of_body hT Tryz.func51 rfl rfl rfl rfl ?_
  intro E hE
  refine AW_room ?_
  refine ww ?_
  refine AWk_op (callS0 rfl rfl hop rfl rfl rfl) rfl ?_
  refine ww ?_
  refine AW_condL rfl (fun h1 => ?_) (fun h1 => ?_)
  · have h1' : e ≠ 0 := by simpa using h1
    rw [if_pos h1']
    refine ww ?_
    exact ret_exact (r := .tup [.d (.sl 1 (encI [])), .d (.int .i64 e)]) rfl (AV.le.tup ⟨AV.le.nils, .refl _, trivial⟩) rfl rfl rfl rfl ⟨rfl, rfl⟩
  · have h1' : ¬ e ≠ 0 := by simpa using h1
    rw [if_neg h1']
    by_cases h3 : l.length = 3
    · match l, h3 with
      | [.mk t0 v0 k0, .mk t1 v1 k1, .mk t2 v2 k2], _ =>
        have hel0 : (encNs [.mk t0 v0 k0, .mk t1 v1 k1, .mk t2 v2 k2])[((0 : Int)).toNat]? = some [.int .i64 t0, .sl 1 (encB v0), .sl 3 (encNs k0)] := rfl
        have hel1 : (encNs [.mk t0 v0 k0, .mk t1 v1 k1, .mk t2 v2 k2])[((1 : Int)).toNat]? = some [.int .i64 t1, .sl 1 (encB v1), .sl 3 (encNs k1)] := rfl
        have hel2 : (encNs [.mk t0 v0 k0, .mk t1 v1 k1, .mk t2 v2 k2])[((2 : Int)).toNat]? = some [.int .i64 t2, .sl 1 (encB v2), .sl 3 (encNs k2)] := rfl
        refine ww ?_
        refine AWk_gop rfl rfl rfl (fun hg => ⟨(sg (C := True) hg).1, OpS_of_pure (indexAddr_ok hT rfl rfl rfl rfl (by omega) hel0)⟩) ?_
        refine ww ?_
        refine AWk_gop rfl rfl rfl (fun hg => ⟨(sg (C := True) hg).1, OpS_of_pure (indexAddr_ok hT rfl rfl rfl rfl (by omega) hel0)⟩) ?_
        refine ww ?_
        refine AWk_gstep hT rfl rfl rfl rfl (fun hg => ⟨(sg (C := True) hg).1, byteCells_encB v0⟩) ?_
        refine ww ?_
        refine AWk_gop rfl rfl rfl (fun hg => ⟨(sg (C := True) hg).1, OpS_of_pure (indexAddr_ok hT rfl rfl rfl rfl (by omega) hel1)⟩) ?_
        refine ww ?_
        refine AWk_gop rfl rfl rfl (fun hg => ⟨(sg (C := True) hg).1, OpS_of_pure (indexAddr_ok hT rfl rfl rfl rfl (by omega) hel1)⟩) ?_
        refine ww ?_
        refine AWk_gstep hT rfl rfl rfl rfl (fun hg => ⟨(sg (C := True) hg).1, byteCells_encB v1⟩) ?_
        refine ww ?_
        refine AWk_gop rfl rfl rfl (fun hg => ⟨(sg (C := True) hg).1, OpS_of_pure (indexAddr_ok hT rfl rfl rfl rfl (by omega) hel2)⟩) ?_
        refine ww ?_
        have hcd : (((encNs [Node.mk t0 v0 k0, .mk t1 v1 k1, .mk t2 v2 k2]).length : Int) != 3 || t0 != 24321 || !bytesOf (encB v0) == (ByteArray.mk #[48, 49, 48, 56]).data.toList || t1 != 24374 || !bytesOf (encB v1) == (ByteArray.mk #[48, 52, 48, 48, 48, 48]).data.toList || t2 != 92) = true ↔
            (t0 ≠ 24321 ∨ v0 ≠ [48, 49, 48, 56] ∨ t1 ≠ 24374 ∨ v1 ≠ [48, 52, 48, 48, 48, 48] ∨ t2 ≠ 92) := by
          rw [bytesOf_encB, bytesOf_encB, hlen]
          simp [or_assoc]
        refine AW_condL rfl (fun h4 => ?_) (fun h4 => ?_)
        · simp only
          rw [if_pos (hcd.1 h4)]
          refine ww ?_
          exact ret_exact (r := .tup [.d (.sl 1 (encI [])), .d (.int .i64 1)]) rfl (AV.le.tup ⟨AV.le.nils, .refl _, trivial⟩) rfl rfl rfl rfl ⟨rfl, rfl⟩
        · simp only
          rw [if_neg (fun hh => by have := hcd.2 hh; exact absurd (this.symm.trans h4) (by simp))]
          have hvl := encB_length v2
          generalize hfin : grpLoop v2 [] = fin
          refine wwe ?_
          refine AW_seq (AW_region ?_)
          refine wws ?_
          refine AW_acquireAt 6 1 0 (es := []) (.inr ⟨rfl, rfl⟩) rfl ?_
          refine ww ?_
          refine AWk_op (OpS_of_pure (indexAddr_ok hT rfl rfl rfl rfl (by omega) hel2)) rfl ?_
          refine ww ?_
          refine AW_loopL (ι := Nat × List Int) (fun x => [(6, .sl 1 (encI x.2) (.right 0)), (63, .d (.sl 1 (encB v2))), (64, .d (.int .i64 ((encB v2).length : Int))), (65, .d (.int .i64 (x.1 : Int)))]) (fun x => [.right 1 (encI x.2).length])
            (fun x => x.1 ≤ v2.length ∧ x.2.length = x.1 ∧ ascX 0 x.2 = 0 ∧ grpLoop (v2.drop x.1) x.2 = fin) (fun x => v2.length - x.1) (0, []) ⟨by simp, by simp, rfl, by simpa using hfin⟩ ⟨.refl _, .refl _, .refl _, .refl _, trivial⟩ (HLe.refl _) ?_
          rintro ⟨i, out⟩ ⟨hi, ho, hs, hg⟩
          simp only at hi ho hs hg ⊢
          have hol := encI_length out
          have h16 := ascX_len 0 out (by omega) hs
          have hwr : IntKind.i64.wrap ((i : Int) + 1) = ((i + 1 : Nat) : Int) := by rw [wrap_id (by omega)]; simp
          refine ww ?_
          refine AW_condL rfl (fun h5 => ?_) (fun h5 => ?_)
          · have h5' : i < v2.length := by rw [hvl] at h5; simpa using h5
            have hdrop : v2.drop i = v2[i] :: v2.drop (i + 1) := by simp
            have helc : (encB v2)[((i : Int)).toNat]? = some [.int .u8 (v2[i].toNat : Int)] := by rw [Int.toNat_natCast]; exact encB_at h5'
            rw [hdrop, grpLoop] at hg
            generalize v2[i] = ch at helc hg
            have hcw : IntKind.i64.wrap (ch.toNat : Int) = (ch.toNat : Int) := wrap_id (by have := UInt8.toNat_lt ch; omega)
            have hgr := Group_spec (ch.toNat : Int)
            rw [← hcw] at hgr
            rw [hcw] at hgr
            generalize groupR (ch.toNat : Int) = gq at hgr hg
            obtain ⟨gn, ge⟩ := gq
            simp only at hgr hg
            have hgr' : Spec Tryz.prog 59 [.d (.int .i64 (IntKind.i64.wrap (ch.toNat : Int)))] [] (fun r h' => r = .tup [.d (.int .i64 gn), .d (.int .i64 ge)] ∧ h' = []) := by rw [hcw]; exact hgr
            refine ww ?_
            refine AWk_op (OpS_of_pure (indexAddr_ok hT rfl rfl rfl rfl (by omega) helc)) rfl ?_
            refine ww ?_
            refine AWk_op (callS0 rfl rfl hgr' rfl rfl rfl) rfl ?_
            refine ww ?_
            refine AW_condL rfl (fun h6 => ?_) (fun h6 => ?_)
            · have h6' : ge ≠ 0 ∨ gn > 16 := by simpa using h6
              rw [if_pos h6'] at hg
              subst hg
              refine ww ?_
              exact ret_exact (r := .tup [.d (.sl 1 (encI [])), .d (.int .i64 4)]) rfl (AV.le.tup ⟨AV.le.nils, .refl _, trivial⟩) rfl rfl rfl rfl ⟨rfl, rfl⟩
            · have h6' : ¬ (ge ≠ 0 ∨ gn > 16) := by simpa using h6
              rw [if_neg h6'] at hg
              have hasc := ascending_spec (out ++ [gn]) (by rw [List.length_append, List.length_singleton]; omega)
              rw [encI_append] at hasc
              generalize hae : ascX 0 (out ++ [gn]) = ae at hasc hg
              refine wwe ?_
              refine AW_seq (AW_seq (AW_regionAt [_, _, _] _ rfl ?_))
              refine wws ?_
              refine AWw_tempCall hT rfl rfl rfl rfl rfl (by simp) (by show ((encI out).length + 1) * (8 + 1) ≤ _; omega) rfl rfl rfl hasc (fun G G' v h => by cases h with | d r => cases r; exact .d (.int _ _)) ?_
              refine AWw_of ?_
              refine ww ?_
              refine AW_condL rfl (fun h7 => ?_) (fun h7 => ?_)
              · have h7' : ae ≠ 0 := by simpa using h7
                rw [if_pos h7'] at hg
                subst hg
                refine ww ?_
                exact ret_exact (r := .tup [.d (.sl 1 (encI [])), .d (.int .i64 ae)]) rfl (AV.le.tup ⟨AV.le.nils, .refl _, trivial⟩) rfl rfl rfl rfl ⟨rfl, rfl⟩
              · have h7' : ¬ ae ≠ 0 := by simpa using h7
                rw [if_neg h7'] at hg
                refine ww ?_
                refine AWk_op (append_rightL (i := 0) hT rfl rfl rfl rfl rfl rfl (by show ((encI out).length + 1) * (8 + 1) ≤ _; omega)) rfl ?_
                refine ww ?_
                exact ⟨(i + 1, out ++ [gn]), ⟨by simp only; omega, by simp only [List.length_append, List.length_singleton]; omega, by simp only; omega, hg⟩, by simp only; omega, ⟨AV.le.eq (by rw [encI_append]; rfl), .refl _, .refl _, AV.le.eq (congrArg (fun z => AV.d (.int .i64 z)) hwr), trivial⟩, ⟨⟨rfl, by rw [encI_append]; rfl⟩, trivial⟩⟩
          · have hge : i = v2.length := by rw [hvl] at h5; simp at h5; omega
            subst hge
            rw [List.drop_length, grpLoop] at hg
            subst hg
            refine ww ?_
            exact ret_exact (r := .tup [.d (.sl 1 (encI out)), .d (.int .i64 0)]) rfl (AV.le.tup ⟨AV.le.dat, .refl _, trivial⟩) rfl rfl rfl rfl ⟨rfl, rfl⟩
    · have hn3 : (((encNs l).length : Int) != 3) = true := by rw [hlen]; simp; omega
      have hres : (match l with
          | [.mk t0 v0 _, .mk t1 v1 _, .mk t2 v2 _] => if t0 ≠ 24321 ∨ v0 ≠ [48, 49, 48, 56] ∨ t1 ≠ 24374 ∨ v1 ≠ [48, 52, 48, 48, 48, 48] ∨ t2 ≠ 92 then (([] : List Int), (1 : Int)) else grpLoop v2 []
          | _ => ([], 1)) = ([], 1) := by
        match l, h3 with
        | [], _ => rfl
        | [.mk _ _ _], _ => rfl
        | [.mk _ _ _, .mk _ _ _], _ => rfl
        | [a, b, c], h => exact absurd rfl h
        | .mk _ _ _ :: .mk _ _ _ :: .mk _ _ _ :: d :: r, _ => rfl
      rw [hres]
      refine ww ?_
      refine AWk_gop (v := .iptr [.int .i64 0, .sl 1 [], .sl 3 []]) rfl rfl rfl (fun hg => absurd hg (by rw [hn3]; simp [gval])) ?_
      refine ww ?_
      refine AWk_gop (v := .iptr [.int .i64 0, .sl 1 [], .sl 3 []]) rfl rfl rfl (fun hg => absurd hg (by rw [hn3]; simp [gval])) ?_
      refine ww ?_
      refine AWk_gstep hT rfl rfl rfl rfl (fun hg => ⟨(sg (C := True) hg).1, fun e he => by cases he⟩) ?_
      refine ww ?_
      refine AWk_gop (v := .iptr [.int .i64 0, .sl 1 [], .sl 3 []]) rfl rfl rfl (fun hg => absurd hg (by rw [hn3]; simp [gval])) ?_
      refine ww ?_
      refine AWk_gop (v := .iptr [.int .i64 0, .sl 1 [], .sl 3 []]) rfl rfl rfl (fun hg => absurd hg (by rw [hn3]; simp [gval])) ?_
      refine ww ?_
      refine AWk_gstep hT rfl rfl rfl rfl (fun hg => ⟨(sg (C := True) hg).1, fun e he => by cases he⟩) ?_
      refine ww ?_
      refine AWk_gop (v := .iptr [.int .i64 0, .sl 1 [], .sl 3 []]) rfl rfl rfl (fun hg => absurd hg (by rw [hn3]; simp [gval])) ?_
      refine ww ?_
      refine AW_condL rfl (fun h4 => ?_) (fun h4 => ?_)
      · refine ww ?_
        exact ret_exact (r := .tup [.d (.sl 1 (encI [])), .d (.int .i64 1)]) rfl (AV.le.tup ⟨AV.le.nils, .refl _, trivial⟩) rfl rfl rfl rfl ⟨rfl, rfl⟩
      · rw [hn3] at h4
        exact absurd h4 (by simp)
end Tdoc
/- The laws' awake: always true. -/
set_option linter.unusedVariables false
set_option linter.unusedSimpArgs false
namespace Tdoc
open Go Go.Proofs

def awB : List UInt8 := [96, 21, 95, 1, 4, 48, 49, 48, 56, 95, 54, 6, 48, 52, 48, 48, 48, 48, 92, 3, 97, 117, 110]
set_option maxRecDepth 100000 in
theorem awB_eq : commonP [1, 2, 14] = (awB, 0) := by rfl
set_option maxRecDepth 100000 in
theorem awG_eq : groupsX awB = ([1, 2, 14], 0) := by rfl

set_option maxHeartbeats 4000000 in
set_option maxRecDepth 100000 in
theorem awake_spec : Spec Tryz.prog 9 [] [] (fun r h' => r = .d (.bool true) ∧ h' = []) := by
  have hc := Common_spec [1, 2, 14] (by simp)
  rw [awB_eq] at hc
  have hg := Groups_spec awB (by simp [awB])
  rw [awG_eq] at hg
  simp only at hc hg
  have hl : (encB awB).length = 23 := by rw [encB_length]; rfl
  have hel : (encI [1, 2, 14])[((2 : Int)).toNat]? = some [.int .i64 14] := rfl
  have hel0 : (encB awB)[((0 : Int)).toNat]? = some [.int .u8 96] := rfl
  generalize encB awB = bs at hc hg hl hel0
  refine Spec_of_body hT Tryz.func9 rfl rfl rfl rfl ?_
  intro E hE
  refine ww ?_
  refine AWk_op (callS0L rfl rfl hc rfl (by exact ⟨AV.le.trans AV.le.dat (AV.le.eq rfl), trivial⟩) rfl rfl) rfl ?_
  refine ww ?_
  refine AWk_op (callS0 rfl rfl hg rfl rfl rfl) rfl ?_
  refine ww ?_
  refine AWk_gop rfl rfl rfl (fun hg => ⟨(sg (C := True) hg).1, OpS_of_pure (indexAddr_ok hT rfl rfl rfl rfl (by omega) hel)⟩) ?_
  refine ww ?_
  refine AWk_gop rfl rfl rfl (fun hg => ⟨(sg (C := True) hg).1, OpS_of_pure (indexAddr_ok hT rfl rfl rfl rfl (by omega) hel0)⟩) ?_
  refine ww ?_
  exact ret_exact (r := .d (.bool true)) rfl (AV.le.eq (by rw [hl]; rfl)) rfl rfl rfl rfl ⟨rfl, rfl⟩
end Tdoc
/- DatagroupsNumbers: the law is always true. -/
set_option linter.unusedVariables false
set_option linter.unusedSimpArgs false
namespace Tdoc
open Go Go.Proofs

end Tdoc
/- Wrap and Common of the reference; Same of equal bytes. -/
set_option linter.unusedVariables false
set_option linter.unusedSimpArgs false
namespace Tdoc
open Go Go.Proofs

set_option maxHeartbeats 4000000 in
set_option maxRecDepth 100000 in
theorem WrapR_spec (n : Int) (hn : -9223372036854775808 ≤ n ∧ n ≤ 9223372036854775807) (l : List Node) (hl : l.length ≤ 1000000000) (hf : fitL l) (hsz : sizeL l ≤ 10000000) :
    Spec Tryz.prog 53 [.d (.int .i64 n), .d (.sl 3 (encNs l))] [] (fun r h' => r = .tup [.d (.sl 1 (encB (wrapG n l).1)), .d (.int .i64 (wrapG n l).2)] ∧ h' = []) := by
  have htag := TagR_spec n hn
  have hrg := tagR_range n
  unfold wrapG
  generalize tagR n = q at htag hrg
  obtain ⟨t, e⟩ := q
  simp only at htag hrg ⊢
  have henc := EncodeR_spec [.mk t [] l] (by simp) ⟨⟨by omega, by simp, hl, hf⟩, trivial⟩ (by simp only [sizeL, sizeN]; omega)
  have hcons : Spec Tryz.prog 110 [.d (.int .i64 t), .d (.sl 3 (encNs l))] [] (fun r h' => r = .agg [.d (.int .i64 t), .d (.sl 1 []), .d (.sl 3 (encNs l))] ∧ h' = []) := Cons_spec t l
  generalize encodeP [.mk t [] l] = en at henc
  obtain ⟨b, f⟩ := en
  refine Spec_of_body hT Tryz.func53 rfl rfl rfl rfl ?_
  intro E hE
  refine ww ?_
  refine AWk_op (callS0 rfl rfl htag rfl rfl rfl) rfl ?_
  refine ww ?_
  refine AW_condL rfl (fun h1 => ?_) (fun h1 => ?_)
  · have h1' : e ≠ 0 := by simpa using h1
    rw [if_pos h1']
    refine ww ?_
    exact ret_exact (r := .tup [.d (.sl 1 (encB [])), .d (.int .i64 e)]) rfl (AV.le.tup ⟨AV.le.nils, .refl _, trivial⟩) rfl rfl rfl rfl ⟨rfl, rfl⟩
  · have h1' : ¬ e ≠ 0 := by simpa using h1
    rw [if_neg h1']
    refine ww ?_
    refine AWk_op (callS0 rfl rfl hcons rfl rfl rfl) rfl ?_
    refine ww ?_
    refine AWk_op (callS0L rfl rfl henc rfl (by exact ⟨AV.le.dat, trivial⟩) rfl rfl) rfl ?_
    refine ww ?_
    exact ret_exact rfl (.refl _) rfl rfl rfl rfl ⟨rfl, rfl⟩

set_option maxHeartbeats 4000000 in
set_option maxRecDepth 100000 in
theorem CommonR_spec (l : List Int) (hl : l.length ≤ 9223372036854775807) : Spec Tryz.prog 36 [.d (.sl 1 (encI l))] [] (fun r h' => r = .tup [.d (.sl 1 (encB (commonP l).1)), .d (.int .i64 (commonP l).2)] ∧ h' = []) := by
  have hlen := encI_length l
  have hp1 : Spec Tryz.prog 67 [.d (.int .i64 24321), .d (.sl 1 (encB [48, 49, 48, 56]))] [] (fun r h' => r = .agg [.d (.int .i64 24321), .d (.sl 1 (encB [48, 49, 48, 56])), .d (.sl 3 [])] ∧ h' = []) := Prim_spec 24321 [48, 49, 48, 56] (by simp)
  have hp2 : Spec Tryz.prog 67 [.d (.int .i64 24374), .d (.sl 1 (encB [48, 52, 48, 48, 48, 48]))] [] (fun r h' => r = .agg [.d (.int .i64 24374), .d (.sl 1 (encB [48, 52, 48, 48, 48, 48])), .d (.sl 3 [])] ∧ h' = []) := Prim_spec 24374 [48, 52, 48, 48, 48, 48] (by simp)
  have hwrap := fun (h0 : l.length ≤ 16) => WrapR_spec 17 (by omega) (cmnKids l) (by simp [cmnKids]) ⟨⟨by omega, by simp, by simp, trivial⟩, ⟨by omega, by simp, by simp, trivial⟩, ⟨by omega, by simp; omega, by simp, trivial⟩, trivial⟩ (by simp [cmnKids, sizeL, sizeN])
  have hp3 : l.length ≤ 16 → Spec Tryz.prog 67 [.d (.int .i64 92), .d (.sl 1 (encB (l.map tagByte)))] [] (fun r h' => r = .agg [.d (.int .i64 92), .d (.sl 1 (encB (l.map tagByte))), .d (.sl 3 [])] ∧ h' = []) := fun h0 => Prim_spec 92 (l.map tagByte) (by simp; omega)
  unfold commonP
  generalize hfin : ascX 0 l = e
  refine Spec_of_body hT Tryz.func36 rfl rfl rfl rfl ?_
  intro E hE
  refine AW_room ?_
  refine AW_seq (AW_region ?_)
  refine wws ?_
  refine AW_seq (AW_region ?_)
  refine wws ?_
  refine AW_acquireAt 4 1 0 (es := []) (.inr ⟨rfl, rfl⟩) rfl ?_
  refine ww ?_
  refine AW_loopL (ι := Nat × Int) (fun x => [(0, .d (.sl 1 (encI l))), (4, .sl 1 (encB ((l.take x.1).map tagByte)) (.right 0)), (5, .d (.int .i64 x.2)), (6, .d (.int .i64 (x.1 : Int)))]) (fun x => [.right 1 (encB ((l.take x.1).map tagByte)).length]) (fun x => x.1 ≤ l.length ∧ (x.1 : Int) ≤ x.2 ∧ x.2 ≤ 16 ∧ ascX x.2 (l.drop x.1) = e) (fun x => l.length - x.1) (0, 0) ⟨by simp, by simp, by simp, by simpa using hfin⟩
    ⟨.refl _, .refl _, .refl _, .refl _, trivial⟩ (HLe.refl _) ?_
  rintro ⟨i, bf⟩ ⟨hi, hib, hb16, hg⟩
  simp only at hi hib hb16 hg ⊢
  have hwr : IntKind.i64.wrap ((i : Int) + 1) = ((i + 1 : Nat) : Int) := by rw [wrap_id (by omega)]; simp
  refine ww ?_
  refine AW_condL rfl (fun h1 => ?_) (fun h1 => ?_)
  · have h1' : i < l.length := by rw [hlen] at h1; simpa using h1
    have hdrop : l.drop i = l[i] :: l.drop (i + 1) := by simp
    have hel := encI_at h1'
    have hsucc : (l.take (i + 1)).map tagByte = (l.take i).map tagByte ++ [tagByte l[i]] := by rw [List.take_succ_eq_append_getElem h1', List.map_append]; rfl
    rw [hdrop, ascX] at hg
    generalize l[i] = x at hel hg hsucc
    have hol := encB_length ((l.take i).map tagByte)
    rw [List.length_map, List.length_take] at hol
    refine ww ?_
    refine AWk_op (OpS_of_pure (indexAddr_ok hT rfl rfl rfl rfl (by omega) hel)) rfl ?_
    refine ww ?_
    refine AWk_gop rfl rfl rfl (fun hg => ⟨(sg (C := True) hg).1, OpS_of_pure (indexAddr_ok hT rfl rfl rfl rfl (by omega) hel)⟩) ?_
    refine ww ?_
    refine AW_condL rfl (fun h2 => ?_) (fun h2 => ?_)
    · have h2' : x < 1 ∨ x > 16 := by simpa using h2
      rw [if_pos h2'] at hg
      subst hg
      refine ww ?_
      exact ret_exact (r := .tup [.d (.sl 1 (encB [])), .d (.int .i64 3)]) rfl (AV.le.tup ⟨AV.le.nils, .refl _, trivial⟩) rfl rfl rfl rfl ⟨rfl, rfl⟩
    · have h2' : ¬ (x < 1 ∨ x > 16) := by simpa using h2
      rw [if_neg h2'] at hg
      refine ww ?_
      refine AWk_op (OpS_of_pure (indexAddr_ok hT rfl rfl rfl rfl (by omega) hel)) rfl ?_
      refine ww ?_
      refine AW_condL rfl (fun h3 => ?_) (fun h3 => ?_)
      · have h3' : x ≤ bf := by simpa using h3
        rw [if_pos h3'] at hg
        subst hg
        refine ww ?_
        exact ret_exact (r := .tup [.d (.sl 1 (encB [])), .d (.int .i64 17)]) rfl (AV.le.tup ⟨AV.le.nils, .refl _, trivial⟩) rfl rfl rfl rfl ⟨rfl, rfl⟩
      · have h3' : ¬ x ≤ bf := by simpa using h3
        rw [if_neg h3'] at hg
        have hwx : IntKind.i64.wrap (x - 1) = x - 1 := wrap_id (by omega)
        obtain ⟨y, hy, hd, _⟩ := tagD_at (i := (x - 1).toNat) (by omega)
        have hyr := tagTab_range y (List.mem_of_getElem? hy)
        have htb : tagByte x = UInt8.ofNat y.toNat := by unfold tagByte; rw [hy]; rfl
        have hw8 : IntKind.u8.wrap y = ((UInt8.ofNat y.toNat).toNat : Int) := by rw [wrapu8 hyr, toNat_ofNat (by omega)]; omega
        refine ww ?_
        refine AWk_op (OpS_of_pure (indexAddr_ok hT rfl rfl rfl rfl (by omega) hel)) rfl ?_
        refine ww ?_
        refine AWk_op (OpS_of_pure (arrAddr_ok (cs := tagD) hT rfl rfl rfl rfl (by rw [hwx]; omega))) rfl ?_
        rw [hwx, Nat.mul_one]
        generalize tagD.drop (x - 1).toNat = cs at hd
        match cs, hd with
        | d :: cs, hd =>
          simp only [List.getElem?_cons_zero, Option.some.injEq] at hd
          subst hd
          refine ww ?_
          refine AWk_op (append_rightL (i := 0) hT rfl rfl rfl rfl rfl rfl (by show ((encB ((l.take i).map tagByte)).length + 1) * (1 + 1) ≤ _; omega)) rfl ?_
          refine ww ?_
          have hres : encB ((l.take (i + 1)).map tagByte) = encB ((l.take i).map tagByte) ++ [[Dat.int .u8 (IntKind.u8.wrap y)]] := by rw [hsucc, encB_append, htb, hw8]; rfl
          exact ⟨(i + 1, x), ⟨by simp only; omega, by simp only; omega, by simp only; omega, hg⟩, by simp only; omega, ⟨.refl _, AV.le.eq (by rw [hres]; rfl), .refl _, AV.le.eq (congrArg (fun z => AV.d (.int .i64 z)) hwr), trivial⟩, ⟨⟨rfl, by rw [hres]⟩, trivial⟩⟩
  · have hge : i = l.length := by rw [hlen] at h1; simp at h1; omega
    subst hge
    have hwrap := hwrap (by omega)
    have hp3 := hp3 (by omega)
    rw [List.drop_length, ascX] at hg
    subst hg
    rw [List.take_length, if_neg (by simp)]
    refine wwe ?_
    refine AW_subL (l := [(4, .d (.sl 1 (encB (l.map tagByte))))]) (h' := [.right 1 (encB (l.map tagByte)).length]) ⟨AV.le.dat, trivial⟩ (HLe.refl _) ?_
    refine AW_seq (AW_regionAt [] _ rfl ?_)
    refine AWw_constBytes hT rfl rfl rfl rfl ?_
    refine AWw_one ?_
    refine AWk_op (callS0 rfl rfl hp1 rfl rfl rfl) rfl ?_
    refine AWk_nil ?_
    refine AWw_constBytes hT rfl rfl rfl rfl ?_
    refine AWw_of ?_
    refine AWk_op (callS0 rfl rfl hp2 rfl rfl rfl) rfl ?_
    refine wws ?_
    refine AWk_op (callS0 rfl rfl hp3 rfl rfl rfl) rfl ?_
    refine wws ?_
    refine AWk_op (callS0L rfl rfl hwrap rfl (by exact ⟨.refl _, AV.le.trans AV.le.dat (AV.le.eq rfl), trivial⟩) rfl rfl) rfl ?_
    refine ww ?_
    exact ret_exact rfl (.refl _) rfl rfl rfl rfl ⟨rfl, rfl⟩

set_option maxHeartbeats 4000000 in
set_option maxRecDepth 100000 in
theorem SameSelf_spec (a : List UInt8) (ha : a.length ≤ 1000000000) : Spec Tryz.prog 34 [.d (.sl 1 (encB a)), .d (.sl 1 (encB a))] [] (fun r h' => r = .d (.bool true) ∧ h' = []) := by
  have hal := encB_length a
  refine Spec_of_body hT Tryz.func34 rfl rfl rfl rfl ?_
  intro E hE
  refine ww ?_
  refine AW_condL rfl (fun h1 => ?_) (fun h1 => ?_)
  · exact absurd h1 (by simp)
  · refine ww ?_
    refine AW_loopL (ι := Nat) (fun i => [(0, .d (.sl 1 (encB a))), (1, .d (.sl 1 (encB a))), (5, .d (.int .i64 (i : Int)))]) (fun _ => []) (fun i => i ≤ a.length) (fun i => a.length - i) 0 (by omega) ⟨.refl _, .refl _, .refl _, trivial⟩ (HLe.refl _) ?_
    intro i hi
    have hwr : IntKind.i64.wrap ((i : Int) + 1) = ((i + 1 : Nat) : Int) := by rw [wrap_id (by omega)]; simp
    refine ww ?_
    refine AW_condL rfl (fun h2 => ?_) (fun h2 => ?_)
    · have h2' : i < a.length := by rw [hal] at h2; simpa using h2
      have hel : (encB a)[((i : Int)).toNat]? = some [.int .u8 (byteAt a i : Int)] := encB_byte h2'
      refine ww ?_
      refine AWd_op (OpS_of_pure (indexAddr_ok hT rfl rfl rfl rfl (by omega) hel)) rfl rfl ?_
      refine ww ?_
      refine AWd_op (OpS_of_pure (indexAddr_ok hT rfl rfl rfl rfl (by omega) hel)) rfl rfl ?_
      refine ww ?_
      refine AW_condL rfl (fun h3 => ?_) (fun h3 => ?_)
      · exact absurd h3 (by simp)
      · refine ww ?_
        exact ⟨i + 1, by omega, by omega, ⟨.refl _, .refl _, AV.le.eq (congrArg (fun z => AV.d (.int .i64 z)) hwr), trivial⟩, HLe.refl _⟩
    · refine ww ?_
      exact ret_exact rfl (.refl _) rfl rfl rfl rfl ⟨rfl, rfl⟩
end Tdoc
/- Powers modulo the group's prime: the reference. -/
set_option linter.unusedVariables false
set_option linter.unusedSimpArgs false
namespace Tdoc
open Go Go.Proofs

def pG : Nat := 2147483579
def powX : Nat → Nat → Nat → Nat → Nat
  | 0, x, k, out => out
  | m + 1, x, k, out => if k = 0 then out else powX m (x * x % pG) (k / 2) (if k % 2 = 1 then out * x % pG else out)
theorem mulP_lt {a b : Nat} (ha : a < pG) (hb : b < pG) : a * b ≤ 4611686018427387904 := by
  have := Nat.mul_le_mul (Nat.le_of_lt ha) (Nat.le_of_lt hb)
  exact Nat.le_trans this (by decide)

set_option maxHeartbeats 4000000 in
set_option maxRecDepth 100000 in
theorem Pow_spec (x k m : Nat) (hx : x < pG) (hk : k ≤ 9223372036854775807) (hm : k < 2 ^ m) :
    Spec Tryz.prog 97 [.d (.int .i64 (x : Int)), .d (.int .i64 (k : Int))] [] (fun r h' => r = .d (.int .i64 (powX m x k 1 : Int)) ∧ h' = []) := by
  refine Spec_of_body hT Tryz.func97 rfl rfl rfl rfl ?_
  intro E hE
  generalize hfin : powX m x k 1 = fin
  refine ww ?_
  refine AW_loopL (ι := Nat × Nat × Nat × Nat) (fun y => [(0, .d (.int .i64 (y.1 : Int))), (1, .d (.int .i64 (y.2.1 : Int))), (5, .d (.int .i64 (y.2.2.1 : Int)))]) (fun _ => [])
    (fun y => y.1 < pG ∧ y.2.1 ≤ 9223372036854775807 ∧ y.2.2.1 < pG ∧ y.2.1 < 2 ^ y.2.2.2 ∧ powX y.2.2.2 y.1 y.2.1 y.2.2.1 = fin) (fun y => y.2.1) (x, k, 1, m) ⟨hx, hk, show 1 < pG by decide, hm, hfin⟩ ⟨.refl _, .refl _, .refl _, trivial⟩ (HLe.refl _) ?_
  rintro ⟨x, k, out, m⟩ ⟨hx, hk, ho, hm, hg⟩
  simp only at hx hk ho hm hg ⊢
  refine ww ?_
  refine AW_condL rfl (fun h1 => ?_) (fun h1 => ?_)
  · have h1' : 0 < k := by simpa using h1
    obtain ⟨m, rfl⟩ : ∃ m', m = m' + 1 := ⟨m - 1, by cases m with | zero => simp at hm; omega | succ m => simp⟩
    rw [powX, if_neg (by omega)] at hg
    refine ww ?_
    have hxx := mulP_lt hx hx
    have hox := mulP_lt ho hx
    have hm1 : IntKind.i64.wrap ((x : Int) * (x : Int)) = ((x * x : Nat) : Int) := by rw [← Int.natCast_mul]; exact wrap_id (by omega)
    have hm2 : IntKind.i64.wrap ((out : Int) * (x : Int)) = ((out * x : Nat) : Int) := by rw [← Int.natCast_mul]; exact wrap_id (by omega)
    have ht1 : Int.tmod (IntKind.i64.wrap ((x : Int) * (x : Int))) 2147483579 = ((x * x % pG : Nat) : Int) := by rw [hm1]; rfl
    have ht2 : Int.tmod (IntKind.i64.wrap ((out : Int) * (x : Int))) 2147483579 = ((out * x % pG : Nat) : Int) := by rw [hm2]; rfl
    have htk : Int.tmod (k : Int) 2 = ((k % 2 : Nat) : Int) := rfl
    have hdk : Int.tdiv (k : Int) 2 = ((k / 2 : Nat) : Int) := rfl
    have hwd : IntKind.i64.wrap (Int.tdiv (k : Int) 2) = ((k / 2 : Nat) : Int) := by rw [hdk]; exact wrap_id (by omega)
    have hl1 : x * x % pG < pG := Nat.mod_lt _ (by decide)
    have hl2 : out * x % pG < pG := Nat.mod_lt _ (by decide)
    have hk2 : k / 2 < 2 ^ m := by rw [Nat.pow_succ] at hm; omega
    refine AW_condL rfl (fun h2 => ?_) (fun h2 => ?_)
    · have h2' : k % 2 = 1 := by rw [htk] at h2; simp at h2; omega
      rw [if_pos h2'] at hg
      refine ww ?_
      exact ⟨(x * x % pG, k / 2, out * x % pG, m), ⟨hl1, by show k / 2 ≤ _; omega, hl2, hk2, hg⟩, by show k / 2 < k; omega, ⟨AV.le.eq (congrArg (fun z => AV.d (.int .i64 z)) ht1), AV.le.eq (congrArg (fun z => AV.d (.int .i64 z)) hwd), AV.le.eq (congrArg (fun z => AV.d (.int .i64 z)) ht2), trivial⟩, HLe.refl _⟩
    · have h2' : ¬ k % 2 = 1 := by rw [htk] at h2; simp at h2; omega
      rw [if_neg h2'] at hg
      refine ww ?_
      exact ⟨(x * x % pG, k / 2, out, m), ⟨hl1, by show k / 2 ≤ _; omega, ho, hk2, hg⟩, by show k / 2 < k; omega, ⟨AV.le.eq (congrArg (fun z => AV.d (.int .i64 z)) ht1), AV.le.eq (congrArg (fun z => AV.d (.int .i64 z)) hwd), .refl _, trivial⟩, HLe.refl _⟩
  · have h1' : k = 0 := by simp at h1; omega
    subst h1'
    have hg' : out = fin := by rw [← hg]; cases m <;> simp [powX]
    subst hg'
    refine ww ?_
    exact ret_exact rfl (.refl _) rfl rfl rfl rfl ⟨rfl, rfl⟩
end Tdoc
/- The number of bits of the group's half order. -/
set_option linter.unusedVariables false
set_option linter.unusedSimpArgs false
namespace Tdoc
open Go Go.Proofs

set_option maxHeartbeats 4000000 in
set_option maxRecDepth 100000 in
theorem Len64_spec : Spec Tryz.prog 276 [.d (.int .u64 1073741789)] [] (fun r h' => r = .d (.int .i64 30) ∧ h' = []) := by
  refine Spec_of_body hT Tryz.func276 rfl rfl rfl rfl ?_
  intro E hE
  refine ww ?_
  refine AW_condL rfl (fun h1 => ?_) (fun h1 => ?_)
  · exact absurd h1 (by decide)
  · refine ww ?_
    refine AW_condL rfl (fun h2 => ?_) (fun h2 => ?_)
    · refine ww ?_
      refine AW_condL rfl (fun h3 => ?_) (fun h3 => ?_)
      · refine ww ?_
        refine AWk_step hT rfl rfl (by decide) ?_
        refine ww ?_
        exact ret_exact (r := .d (.int .i64 30)) rfl (AV.le.eq (by rfl)) rfl rfl rfl rfl ⟨rfl, rfl⟩
      · exact absurd h3 (by decide)
    · exact absurd h2 (by decide)

set_option maxHeartbeats 4000000 in
set_option maxRecDepth 100000 in
theorem Len_spec : Spec Tryz.prog 263 [.d (.int .u64 1073741789)] [] (fun r h' => r = .d (.int .i64 30) ∧ h' = []) := by
  refine Spec_of_body hT Tryz.func263 rfl rfl rfl rfl ?_
  intro E hE
  refine ww ?_
  refine AW_condL rfl (fun h1 => ?_) (fun h1 => ?_)
  · exact absurd h1 (by decide)
  · refine ww ?_
    refine AWk_op (callS0 rfl rfl Len64_spec rfl rfl rfl) rfl ?_
    refine ww ?_
    exact ret_exact rfl (.refl _) rfl rfl rfl rfl ⟨rfl, rfl⟩
end Tdoc
/- Package traveldocmade: dice. -/
set_option linter.unusedVariables false
set_option linter.unusedSimpArgs false
namespace Tdoc
open Go Go.Proofs

theorem emod_tmod {x n : Int} (h : 1 ≤ n) : (if x.tmod n < 0 then x.tmod n + n else x.tmod n) = x % n := by
  have hb1 := Int.tmod_lt_of_pos x (b := n) (by omega)
  have hb2 : (-x).tmod n < n := Int.tmod_lt_of_pos (-x) (b := n) (by omega)
  rw [Int.neg_tmod] at hb2
  have h2 := Int.mul_tdiv_add_tmod x n
  have h3 : x % n = (x.tmod n + n * x.tdiv n) % n := by rw [Int.add_comm, h2]
  rw [h3, Int.add_mul_emod_self_left]
  split
  · rw [← Int.add_emod_right, Int.emod_eq_of_lt (by omega) (by omega)]
  · rw [Int.emod_eq_of_lt (by omega) (by omega)]

set_option maxHeartbeats 8000000 in
set_option maxRecDepth 100000 in
theorem Mod_spec (x n : Int) (h1 : 1 ≤ n) (hn : n ≤ 4611686018427387904) : Spec Tryz.prog 55 [.d (.int .i64 x), .d (.int .i64 n)] [] (fun r h' => r = .d (.int .i64 (x % n)) ∧ h' = []) := by
  have hb1 := Int.tmod_lt_of_pos x (b := n) (by omega)
  have hb2 : (-x).tmod n < n := Int.tmod_lt_of_pos (-x) (b := n) (by omega)
  rw [Int.neg_tmod] at hb2
  have he := emod_tmod (x := x) h1
  have hne : n ≠ 0 := by omega
  refine Spec_of_body hT Tryz.func55 rfl rfl rfl rfl ?_; intro E hE
  refine ww ?_
  refine AW_condL rfl (fun h2 => ?_) (fun h2 => ?_)
  · have h2' : x.tmod n < 0 := by simpa using h2
    rw [if_pos h2'] at he
    refine ww ?_
    exact wwr
  · have h2' : ¬ x.tmod n < 0 := by simpa using h2
    rw [if_neg h2'] at he
    refine ww ?_
    exact wwr

set_option maxHeartbeats 8000000 in
set_option maxRecDepth 100000 in
theorem Light_spec (l : List Int) : Spec Tryz.prog 8 [.d (.sl 1 (encI l))] [] (fun r h' => r = .d (.bool (decide (l.length ≤ 400))) ∧ h' = []) := by
  have hl := encI_length l
  generalize encI l = es at hl
  refine Spec_of_body hT Tryz.func8 rfl rfl rfl rfl ?_; intro E hE
  refine ww ?_
  exact ret_q ⟨rfl, rfl⟩ rfl (.bool (by rw [hl]; exact decide_eq_decide.2 (by omega))) rfl rfl rfl rfl

/-- Dice: the numbers, and how many have been given out. -/
def diceR (l : List Int) (a : Nat) : List AV := [.d (.sl 1 (encI l)), .d (.int .i64 (a : Int))]

set_option maxHeartbeats 8000000 in
set_option maxRecDepth 100000 in
theorem Roll_spec (l : List Int) (hl : l.length ≤ 1000000) : Spec Tryz.prog 10 [.d (.sl 1 (encI l))] [.room] (fun r h' => r = .ptr 0 0 ∧ h' = [.row (diceR l 0)]) := by
  unfold diceR
  generalize encI l = es
  refine Spec_of_body hT Tryz.func10 rfl rfl rfl rfl ?_; intro E hE
  refine AW_seq (AW_region (AWk_step hT rfl rfl trivial (AWk_nil ?_)))
  refine AW_seq (AW_region (AWk_step hT rfl rfl trivial (AWk_step hT rfl rfl trivial ?_)))
  refine AWk_op (boxAt_ok (i0 := 0) rfl rfl rfl) rfl ?_
  refine ww ?_
  exact wwr

/-- A number from 0 to n - 1, and the place behind it. -/
def NextP (l : List Int) (n : Int) (x : Int × Nat) : Prop := 0 ≤ x.1 ∧ x.1 < n ∧ x.2 ≤ l.length

set_option maxHeartbeats 8000000 in
set_option maxRecDepth 100000 in
theorem Next_spec (l : List Int) (hl : l.length ≤ 1000000) (a : Nat) (ha : a ≤ l.length) (n : Int) (h1 : 1 ≤ n) (hn : n ≤ 4611686018427387904) :
    Spec Tryz.prog 12 [.ptr 0 0, .d (.int .i64 n)] [.row (diceR l a)] (fun r h' => ∃ x, NextP l n x ∧ r = .d (.int .i64 x.1) ∧ h' = [.row (diceR l x.2)]) := by
  have hll := encI_length l
  unfold diceR
  refine Spec_of_body hT Tryz.func12 rfl rfl rfl rfl ?_; intro E hE
  refine ww ?_
  refine AW_condL rfl (fun h2 => ?_) (fun h2 => ?_)
  · have h2' : ¬ a < l.length := by rw [hll] at h2; simp at h2; omega
    refine ww ?_
    exact ret_q ⟨(0, a), ⟨by simp, by simp only; omega, ha⟩, rfl, rfl⟩ rfl (.refl _) rfl rfl rfl rfl
  · have h2' : a < l.length := by rw [hll] at h2; simp at h2; omega
    have hw1 : IntKind.i64.wrap ((a : Int) + 1) = ((a + 1 : Nat) : Int) := by rw [wrap_id (by omega)]; simp
    have hw2 : IntKind.i64.wrap (((a + 1 : Nat) : Int) - 1) = (a : Int) := by rw [wrap_id (by omega)]; omega
    have h0 : 0 ≤ IntKind.i64.wrap (IntKind.i64.wrap ((a : Int) + 1) - 1) := by rw [hw1, hw2]; omega
    have hel : (encI l)[(IntKind.i64.wrap (IntKind.i64.wrap ((a : Int) + 1) - 1)).toNat]? = some [.int .i64 l[a]] := by rw [hw1, hw2]; simp [encI, h2']
    have hm := Mod_spec l[a] n h1 hn
    generalize l[a] = x at hel hm
    refine ww ?_
    refine AWd_op (OpS_of_pure (indexAddr_ok hT rfl rfl rfl rfl h0 hel)) rfl rfl ?_
    refine ww ?_
    refine wwc hm ?_
    refine ww ?_
    refine ret_q (r := .d (.int .i64 (x % n))) ⟨(x % n, a + 1), ⟨Int.emod_nonneg _ (by omega), Int.emod_lt_of_pos _ (by omega), h2'⟩, rfl, rfl⟩ rfl (.refl _) ?_ rfl rfl rfl
    rw [hw1]; rfl

set_option maxHeartbeats 8000000 in
set_option maxRecDepth 100000 in
theorem One_spec (l : List Int) (hl : l.length ≤ 1000000) (a : Nat) (ha : a ≤ l.length) (n : Int) (h1 : 1 ≤ n) (hn : n ≤ 4611686018427387904) :
    Spec Tryz.prog 21 [.ptr 0 0, .d (.int .i64 n)] [.row (diceR l a)] (fun r h' => ∃ x : Bool × Nat, x.2 ≤ l.length ∧ r = .d (.bool x.1) ∧ h' = [.row (diceR l x.2)]) := by
  have hN := Next_spec l hl a ha n h1 hn
  refine Spec_of_body hT Tryz.func21 rfl rfl rfl rfl ?_; intro E hE
  refine ww ?_
  refine AWk_opX (callX rfl rfl (hN) [0] (by decide) rfl rfl rfl rfl (fun _ => rfl) (fun _ => rfl) (fun _ => rfl)) rfl ?_
  rintro ⟨x, b⟩ ⟨q1, q2, q3⟩
  refine ww ?_
  exact ret_q ⟨(_, b), q3, rfl, rfl⟩ rfl (.refl _) rfl rfl rfl rfl

def TagP (l : List Int) (c : Bool) (x : Int × Nat) : Prop := tagOk x.1 = true ∧ tagCons x.1 = c ∧ x.2 ≤ l.length

theorem tagOk_high {m k : Int} (hm : 0 ≤ m ∧ m < 4) (hk : 0 ≤ k ∧ k < 127) : tagOk (256 * (31 + 64 * m) + 1 + k) = true ∧ tagCons (256 * (31 + 64 * m) + 1 + k) = false ∧ tagOk (256 * (31 + 64 * m) + 1 + k + 8192) = true ∧ tagCons (256 * (31 + 64 * m) + 1 + k + 8192) = true := by
  have h1 : tagOk (256 * (31 + 64 * m) + 1 + k) = true := by unfold tagOk; rw [if_neg (by omega)]; simp; omega
  have h2 : tagOk (256 * (31 + 64 * m) + 1 + k + 8192) = true := by unfold tagOk; rw [if_neg (by omega)]; simp; omega
  refine ⟨h1, ?_, h2, ?_⟩
  · unfold tagCons; rw [h1, if_pos (by omega)]; simp; omega
  · unfold tagCons; rw [h2, if_pos (by omega)]; simp; omega
theorem tagOk_low {m k : Int} (hm : 0 ≤ m ∧ m < 4) (hk : 0 ≤ k ∧ k < 30) : tagOk (1 + k + 64 * m) = true ∧ tagCons (1 + k + 64 * m) = false ∧ tagOk (1 + k + 64 * m + 32) = true ∧ tagCons (1 + k + 64 * m + 32) = true := by
  have h1 : tagOk (1 + k + 64 * m) = true := by unfold tagOk; rw [if_pos (by omega)]; simp; omega
  have h2 : tagOk (1 + k + 64 * m + 32) = true := by unfold tagOk; rw [if_pos (by omega)]; simp; omega
  refine ⟨h1, ?_, h2, ?_⟩
  · unfold tagCons; rw [h1, if_neg (by omega)]; simp; omega
  · unfold tagCons; rw [h2, if_neg (by omega)]; simp; omega

set_option maxHeartbeats 8000000 in
set_option maxRecDepth 100000 in
theorem DTag_spec (l : List Int) (hl : l.length ≤ 1000000) (a : Nat) (ha : a ≤ l.length) (c : Bool) :
    Spec Tryz.prog 111 [.ptr 0 0, .d (.bool c)] [.row (diceR l a)] (fun r h' => ∃ x, TagP l c x ∧ r = .d (.int .i64 x.1) ∧ h' = [.row (diceR l x.2)]) := by
  have hN := fun a ha n h1 hn => Next_spec l hl a ha n h1 hn
  refine Spec_of_body hT Tryz.func111 rfl rfl rfl rfl ?_; intro E hE
  refine ww ?_
  refine AWk_opX (callX rfl rfl (hN a ha 4 (by omega) (by omega)) [0] (by decide) rfl rfl rfl rfl (fun _ => rfl) (fun _ => rfl) (fun _ => rfl)) rfl ?_
  rintro ⟨k0, a1⟩ ⟨q1, q2, q3⟩
  simp only at q1 q2 q3 ⊢
  refine ww ?_
  refine AW_condL rfl (fun h2 => ?_) (fun h2 => ?_)
  · refine ww ?_
    refine AWk_opX (callX rfl rfl (hN a1 q3 4 (by omega) (by omega)) [0] (by decide) rfl rfl rfl rfl (fun _ => rfl) (fun _ => rfl) (fun _ => rfl)) rfl ?_
    rintro ⟨m, a2⟩ ⟨r1, r2, r3⟩
    simp only at r1 r2 r3 ⊢
    refine ww ?_
    refine AWk_opX (callX rfl rfl (hN a2 r3 127 (by omega) (by omega)) [0] (by decide) rfl rfl rfl rfl (fun _ => rfl) (fun _ => rfl) (fun _ => rfl)) rfl ?_
    rintro ⟨k, a3⟩ ⟨s1, s2, s3⟩
    simp only at s1 s2 s3 ⊢
    have ht := tagOk_high ⟨r1, r2⟩ ⟨s1, s2⟩
    have hw : IntKind.i64.wrap (IntKind.i64.wrap (IntKind.i64.wrap (256 * IntKind.i64.wrap (31 + IntKind.i64.wrap (64 * m))) + 1) + k) = 256 * (31 + 64 * m) + 1 + k := by
      rw [wrap_id (n := 64 * m) (by omega), wrap_id (n := 31 + 64 * m) (by omega), wrap_id (n := 256 * (31 + 64 * m)) (by omega), wrap_id (n := 256 * (31 + 64 * m) + 1) (by omega), wrap_id (by omega)]
    refine ww ?_
    refine AW_condL rfl (fun h3 => ?_) (fun h3 => ?_)
    · subst h3
      have hw2 : IntKind.i64.wrap (256 * (31 + 64 * m) + 1 + k + 8192) = 256 * (31 + 64 * m) + 1 + k + 8192 := wrap_id (by omega)
      refine ww ?_
      exact ret_q ⟨(256 * (31 + 64 * m) + 1 + k + 8192, a3), ⟨ht.2.2.1, ht.2.2.2, s3⟩, rfl, rfl⟩ rfl (.int (by rw [hw, hw2])) rfl rfl rfl rfl
    · subst h3
      refine ww ?_
      exact ret_q ⟨(256 * (31 + 64 * m) + 1 + k, a3), ⟨ht.1, ht.2.1, s3⟩, rfl, rfl⟩ rfl (.int hw) rfl rfl rfl rfl
  · refine ww ?_
    refine AWk_opX (callX rfl rfl (hN a1 q3 30 (by omega) (by omega)) [0] (by decide) rfl rfl rfl rfl (fun _ => rfl) (fun _ => rfl) (fun _ => rfl)) rfl ?_
    rintro ⟨k, a2⟩ ⟨r1, r2, r3⟩
    simp only at r1 r2 r3 ⊢
    refine ww ?_
    refine AWk_opX (callX rfl rfl (hN a2 r3 4 (by omega) (by omega)) [0] (by decide) rfl rfl rfl rfl (fun _ => rfl) (fun _ => rfl) (fun _ => rfl)) rfl ?_
    rintro ⟨m, a3⟩ ⟨s1, s2, s3⟩
    simp only at s1 s2 s3 ⊢
    have ht := tagOk_low ⟨s1, s2⟩ ⟨r1, r2⟩
    have hw : IntKind.i64.wrap (IntKind.i64.wrap (1 + k) + IntKind.i64.wrap (64 * m)) = 1 + k + 64 * m := by
      rw [wrap_id (n := 64 * m) (by omega), wrap_id (n := 1 + k) (by omega), wrap_id (by omega)]
    refine ww ?_
    refine AW_condL rfl (fun h3 => ?_) (fun h3 => ?_)
    · subst h3
      have hw2 : IntKind.i64.wrap (1 + k + 64 * m + 32) = 1 + k + 64 * m + 32 := wrap_id (by omega)
      refine ww ?_
      exact ret_q ⟨(1 + k + 64 * m + 32, a3), ⟨ht.2.2.1, ht.2.2.2, s3⟩, rfl, rfl⟩ rfl (.int (by rw [hw, hw2])) rfl rfl rfl rfl
    · subst h3
      refine ww ?_
      exact ret_q ⟨(1 + k + 64 * m, a3), ⟨ht.1, ht.2.1, s3⟩, rfl, rfl⟩ rfl (.int hw) rfl rfl rfl rfl
end Tdoc
/- Package traveldocmade: bytes and objects. -/
set_option linter.unusedVariables false
set_option linter.unusedSimpArgs false
namespace Tdoc
open Go Go.Proofs

def BytesP (l : List Int) (n : Nat) (x : List UInt8 × Nat) : Prop := x.1.length ≤ n ∧ x.2 ≤ l.length

theorem u8_of {x : Int} (h : 0 ≤ x ∧ x < 256) : IntKind.u8.wrap x = ((UInt8.ofNat x.toNat).toNat : Int) := by rw [wrapu8 (by omega), toNat_ofNat (by omega)]; omega

set_option maxHeartbeats 8000000 in
set_option maxRecDepth 100000 in
theorem Bytes_spec (l : List Int) (hl : l.length ≤ 1000000) (a : Nat) (ha : a ≤ l.length) (n : Nat) (hn : n ≤ 1000000) :
    Spec Tryz.prog 112 [.ptr 0 0, .d (.int .i64 (n : Int))] [.row (diceR l a)] (fun r h' => ∃ x, BytesP l n x ∧ r = .d (.sl 1 (encB x.1)) ∧ h' = [.row (diceR l x.2)]) := by
  have hN := fun a ha n h1 hn => Next_spec l hl a ha n h1 hn
  have hw0 : IntKind.i64.wrap ((n : Int) + 1) = ((n + 1 : Nat) : Int) := by rw [wrap_id (by omega)]; omega
  refine Spec_of_body hT Tryz.func112 rfl rfl rfl rfl ?_; intro E hE
  refine ww ?_
  refine AWk_opX (callX rfl rfl (hN a ha ((n + 1 : Nat) : Int) (by omega) (by omega)) [0] (by decide) rfl (by rw [← hw0]; rfl) rfl rfl (fun _ => rfl) (fun _ => rfl) (fun _ => rfl)) rfl ?_
  rintro ⟨m, a1⟩ ⟨q1, q2, q3⟩
  simp only at q1 q2 q3 ⊢
  obtain ⟨m, rfl⟩ : ∃ m' : Nat, m = (m' : Int) := ⟨m.toNat, by omega⟩
  refine ww ?_
  refine AW_room (AW_acquireAt 5 1 1 (es := []) (.inr ⟨rfl, rfl⟩) rfl ?_)
  refine AW_loopL (ι := Nat × Nat × List UInt8) (fun x => [(0, .ptr 0 0), (5, .sl 1 (encB x.2.2) (.right 1)), (6, .d (.int .i64 (x.2.1 : Int)))]) (fun x => [.row (diceR l x.1), .right 1 (encB x.2.2).length])
    (fun x => x.1 ≤ l.length ∧ x.2.2.length + x.2.1 ≤ n) (fun x => x.2.1) (a1, m, []) ⟨q3, by simp; omega⟩ ⟨.refl _, .refl _, .refl _, trivial⟩ (HLe.refl _) ?_
  rintro ⟨b, m, out⟩ ⟨h1, h2⟩
  simp only at h1 h2 ⊢
  have hol := encB_length out
  refine ww ?_
  refine AW_condL rfl (fun h3 => ?_) (fun h3 => ?_)
  · obtain ⟨m, rfl⟩ : ∃ m', m = m' + 1 := ⟨m - 1, by simp at h3; omega⟩
    refine ww ?_
    refine AWk_opX (callX rfl rfl (hN b h1 256 (by omega) (by omega)) [0] (by decide) rfl rfl rfl rfl (fun _ => rfl) (fun _ => rfl) (fun _ => rfl)) rfl ?_
    rintro ⟨x, b2⟩ ⟨r1, r2, r3⟩
    simp only at r1 r2 r3 ⊢
    have hx := u8_of ⟨r1, r2⟩
    refine ww ?_
    refine AWk_op (append_rightL (i := 1) hT rfl rfl rfl rfl rfl rfl (by show ((encB out).length + 1) * (1 + 1) ≤ _; omega)) rfl ?_
    have hwm : IntKind.i64.wrap (((m + 1 : Nat) : Int) - 1) = (m : Int) := by rw [wrap_id (by omega)]; omega
    refine ww ?_
    have hres : encB (out ++ [UInt8.ofNat x.toNat]) = encB out ++ [[Dat.int .u8 (IntKind.u8.wrap x)]] := by rw [encB_append, hx]; rfl
    exact ⟨(b2, m, out ++ [UInt8.ofNat x.toNat]), ⟨r3, by simp only [List.length_append, List.length_singleton]; omega⟩, by simp only; omega, ⟨.refl _, AV.le.eq (by rw [hres]; rfl), .int hwm, trivial⟩, ⟨ObLe.refl _, ⟨rfl, by rw [hres]⟩, trivial⟩⟩
  · refine ww ?_
    exact ret_q ⟨(out, b), ⟨by simp only; omega, h1⟩, rfl, rfl⟩ rfl .dat rfl rfl rfl rfl

/-! objects that can be encoded -/
mutual
def goodN (d : Nat) : Node → Prop
  | .mk t v k => tagOk t = true ∧ ((tagCons t = true ∧ v = [] ∧ 2 ≤ d) ∨ (tagCons t = false ∧ k = [])) ∧ v.length ≤ 270 ∧ k.length ≤ 3 ∧ goodL (d - 1) k
def goodL (d : Nat) : List Node → Prop
  | [] => True
  | a :: l => goodN d a ∧ goodL d l
end

theorem goodL_append {d : Nat} : ∀ {a b : List Node}, goodL d a → goodL d b → goodL d (a ++ b)
  | [], _, _, h => h
  | x :: a, b, h1, h2 => ⟨h1.1, goodL_append h1.2 h2⟩
mutual
theorem goodN_fit (d : Nat) : ∀ (n : Node), goodN d n → fitN n
  | .mk t v k, h => by
    obtain ⟨h1, h2, h3, h4, h5⟩ := h
    have := tagOk_range h1
    exact ⟨by omega, by omega, by omega, goodL_fit (d - 1) k h5⟩
theorem goodL_fit (d : Nat) : ∀ (l : List Node), goodL d l → fitL l
  | [], _ => trivial
  | a :: l, h => ⟨goodN_fit d a h.1, goodL_fit d l h.2⟩
end

def szB : Nat → Nat
  | 0 => 1
  | d + 1 => 1 + 3 * szB d
def wrBd : Nat → Nat
  | 0 => 300
  | d + 1 => 300 + 3 * wrBd d
theorem szB_pos (d : Nat) : 1 ≤ szB d := by cases d <;> simp [szB]
theorem wrN_le (t : Int) (v : List UInt8) (k : List Node) : (wrN (.mk t v k)).length ≤ 11 + v.length + (wrL k).length := by
  have := wrL_one_le t v k
  simpa [wrL] using this
mutual
theorem goodN_size (d : Nat) : ∀ (n : Node), goodN d n → sizeN n ≤ szB d ∧ (wrN n).length ≤ wrBd d
  | .mk t v k, h => by
    obtain ⟨h1, h2, h3, h4, h5⟩ := h
    have hk := goodL_size (d - 1) k h5
    have hw := wrN_le t v k
    rw [sizeN]
    rcases h2 with ⟨_, hv, hd⟩ | ⟨_, hk0⟩
    · obtain ⟨d, rfl⟩ : ∃ d', d = d' + 1 := ⟨d - 1, by omega⟩
      simp only [Nat.add_sub_cancel] at hk
      have h6 := Nat.mul_le_mul_right (szB d) h4
      have h7 := Nat.mul_le_mul_right (wrBd d) h4
      subst hv
      simp only [List.length_nil] at hw
      rw [szB, wrBd]
      omega
    · subst hk0
      have := szB_pos d
      have h8 : 300 ≤ wrBd d := by cases d <;> simp [wrBd]
      simp only [sizeL, wrL, List.length_nil] at hw ⊢
      omega
theorem goodL_size (d : Nat) : ∀ (l : List Node), goodL d l → sizeL l ≤ l.length * szB d ∧ (wrL l).length ≤ l.length * wrBd d
  | [], _ => by simp [sizeL, wrL]
  | a :: l, h => by
    have h1 := goodN_size d a h.1
    have h2 := goodL_size d l h.2
    rw [sizeL, wrL, List.length_append, List.length_cons, Nat.add_mul, Nat.add_mul]
    omega
end

def NodesP (l : List Int) (d : Nat) (x : List Node × Nat) : Prop := goodL d x.1 ∧ x.1.length ≤ 3 ∧ x.2 ≤ l.length

theorem zeroRow (n : Nat) : (List.replicate n [AV.d (.int .u8 0)]).flatten = byteAV (List.replicate n 0) := by
  induction n with
  | zero => rfl
  | succ n ih => rw [List.replicate_succ, List.flatten_cons, ih]; rfl

set_option maxHeartbeats 8000000 in
set_option maxRecDepth 100000 in
theorem Nodes_spec (l : List Int) (hl : l.length ≤ 1000000) (d : Nat) : ∀ (a : Nat), 1 ≤ d → d ≤ 100 → a ≤ l.length →
    Spec Tryz.prog 54 [.ptr 0 0, .d (.int .i64 (d : Int))] [.row (diceR l a)] (fun r h' => ∃ x, NodesP l d x ∧ r = .d (.sl 3 (encNs x.1)) ∧ h' = [.row (diceR l x.2)]) := by
  induction d using Nat.strongRecOn with
  | _ d ih =>
  intro a hd1 hd ha
  have hN := fun a ha n h1 hn => Next_spec l hl a ha n h1 hn
  have hO := fun a ha n h1 hn => One_spec l hl a ha n h1 hn
  have hG := fun a ha c => DTag_spec l hl a ha c
  have hB := fun a ha => Bytes_spec l hl a ha 9 (by omega)
  refine Spec_of_body hT Tryz.func54 rfl rfl rfl rfl ?_; intro E hE
  refine ww ?_
  refine AWk_opX (callX rfl rfl (hN a ha 4 (by omega) (by omega)) [0] (by decide) rfl rfl rfl rfl (fun _ => rfl) (fun _ => rfl) (fun _ => rfl)) rfl ?_
  rintro ⟨m, a1⟩ ⟨q1, q2, q3⟩
  simp only at q1 q2 q3 ⊢
  obtain ⟨m, rfl⟩ : ∃ m' : Nat, m = (m' : Int) := ⟨m.toNat, by omega⟩
  refine ww ?_
  refine AW_room (AW_acquireAt 5 3 1 (es := []) (.inr ⟨rfl, rfl⟩) rfl ?_)
  refine AW_loopC (ι := Nat × Nat × List Node) (fun x => [(0, .ptr 0 0), (1, .d (.int .i64 (d : Int))), (5, .sl 3 (encNs x.2.2) (.right 1)), (6, .d (.int .i64 (x.2.1 : Int)))]) (fun x => [.row (diceR l x.1), .right 3 (encNs x.2.2).length])
    (fun x => x.1 ≤ l.length ∧ x.2.2.length + x.2.1 ≤ 3 ∧ goodL d x.2.2) (fun x => x.2.1) (a1, m, []) ⟨q3, by simp; omega, trivial⟩ ⟨.refl _, .refl _, .refl _, .refl _, trivial⟩ (HLe.refl _) ?_
  rintro ⟨b, m, out⟩ ⟨h1, h2, h3⟩
  simp only at h1 h2 h3 ⊢
  have hol := encNs_length out
  refine ww ?_
  refine AW_condL rfl (fun h4 => ?_) (fun h4 => ?_)
  · obtain ⟨m, rfl⟩ : ∃ m', m = m' + 1 := ⟨m - 1, by simp at h4; omega⟩
    have hwm : IntKind.i64.wrap (((m + 1 : Nat) : Int) - 1) = (m : Int) := by rw [wrap_id (by omega)]; omega
    have hmk : ∀ (t : Int) (v : List UInt8) (k : List Node), encNs (out ++ [.mk t v k]) = encNs out ++ [encN (.mk t v k)] := fun t v k => by rw [encNs_append]; rfl
    have fin : ∀ (b2 : Nat) (t : Int) (v : List UInt8) (k : List Node) (junk : List AObj) (τ : Nat → AV), b2 ≤ l.length → goodN d (.mk t v k) → AV.le (τ 0) (.ptr 0 0) → AV.le (τ 1) (.d (.int .i64 (d : Int))) → AV.le (τ 5) (.sl 3 (encNs out ++ [encN (.mk t v k)]) (.right 1)) → AV.le (τ 6) (.d (.int .i64 (IntKind.i64.wrap (((m + 1 : Nat) : Int) - 1)))) →
        ∃ (y : Nat × Nat × List Node) (junk' : List AObj), (y.1 ≤ l.length ∧ y.2.2.length + y.2.1 ≤ 3 ∧ goodL d y.2.2) ∧ y.2.1 < m + 1 ∧ SubL τ [(0, .ptr 0 0), (1, .d (.int .i64 (d : Int))), (5, .sl 3 (encNs y.2.2) (.right 1)), (6, .d (.int .i64 (y.2.1 : Int)))] ∧
          HLe ([.row (diceR l b2), .right 3 (encNs out ++ [encN (.mk t v k)]).length] ++ junk) ([.row (diceR l y.1), .right 3 (encNs y.2.2).length] ++ junk') ∧ E.below [AObj.row (diceR l y.1), .right 3 (encNs y.2.2).length].length ∧ lowS [AObj.row (diceR l y.1), .right 3 (encNs y.2.2).length].length [(0, .ptr 0 0), (1, .d (.int .i64 (d : Int))), (5, .sl 3 (encNs y.2.2) (.right 1)), (6, .d (.int .i64 (y.2.1 : Int)))] = true ∧ lowH [AObj.row (diceR l y.1), .right 3 (encNs y.2.2).length].length [AObj.row (diceR l y.1), .right 3 (encNs y.2.2).length] = true := by
      intro b2 t v k junk τ g1 g2 g3 g4 g5 g6
      refine ⟨(b2, m, out ++ [.mk t v k]), junk, ⟨g1, by simp only [List.length_append, List.length_singleton]; omega, goodL_append h3 ⟨g2, trivial⟩⟩, by simp only; omega, ⟨g3, g4, by rw [hmk]; exact g5, by rw [← hwm]; exact g6, trivial⟩, ?_, Env.below_mono hE (by simp), rfl, rfl⟩
      simp only [hmk]
      exact HLe.refl _
    refine wwe ?_
    refine AW_seq (AW_block ?_)
    refine AW_seq_cut (ι := Bool × Nat) (fun x => [(0, .ptr 0 0), (1, .d (.int .i64 (d : Int))), (5, .sl 3 (encNs out) (.right 1)), (6, .d (.int .i64 ((m + 1 : Nat) : Int))), (19, .d (.bool x.1))]) (fun x => [.row (diceR l x.2), .right 3 (encNs out).length])
      (fun x => x.2 ≤ l.length ∧ (x.1 = true → 2 ≤ d)) ?_ ?_
    · refine ww ?_
      refine AWk_gopX (.d (.bool false)) rfl rfl rfl (fun hg => ⟨by first | exact True.intro | exact ⟨hg, True.intro⟩ | exact ⟨hg, hg, True.intro⟩, callX rfl rfl (hO b h1 2 (by omega) (by omega)) [0] (by decide) rfl rfl rfl rfl (fun _ => rfl) (fun _ => rfl) (fun _ => rfl)⟩) ?_ ?_
      · rintro hdd ⟨f, b2⟩ r1
        simp only at r1 ⊢
        have hd2 : 2 ≤ d := by simp [gval] at hdd; omega
        refine ww ?_
        exact ⟨(_, b2), ⟨r1, fun _ => hd2⟩, ⟨.refl _, .refl _, .refl _, .refl _, .refl _, trivial⟩, HLe.refl _⟩
      · intro hdd
        have hd2 : ¬ ((d : Int) > 1) := by simpa [gval] using hdd
        refine AWk_step hT rfl rfl (by intro hh; simp at hh; omega) ?_
        refine ww ?_
        exact ⟨(false, b), ⟨h1, by simp⟩, ⟨.refl _, .refl _, .refl _, .refl _, .bool (by simp), trivial⟩, HLe.refl _⟩
    rintro ⟨c, b2⟩ ⟨r1, hc⟩
    simp only at r1 hc ⊢
    refine AW_condL rfl (fun h5 => ?_) (fun h5 => ?_)
    · have hd2 := hc h5
      have hwd : IntKind.i64.wrap ((d : Int) - 1) = ((d - 1 : Nat) : Int) := by rw [wrap_id (by omega)]; omega
      refine ww ?_
      refine AWk_opX (callX rfl rfl (hG b2 r1 true) [0] (by decide) rfl rfl rfl rfl (fun _ => rfl) (fun _ => rfl) (fun _ => rfl)) rfl ?_
      rintro ⟨t, b3⟩ ⟨s1, s2, s3⟩
      simp only at s1 s2 s3 ⊢
      refine ww ?_
      have hi := ih (d - 1) (by omega) b3 (by omega) (by omega) s3
      rw [← hwd] at hi
      refine AWk_opX (callX rfl rfl (hi) [0] (by decide) rfl rfl rfl rfl (fun _ => rfl) (fun _ => rfl) (fun _ => rfl)) rfl ?_
      rintro ⟨k, b4⟩ ⟨u1, u2, u3⟩
      simp only at u1 u2 u3 ⊢
      refine ww ?_
      refine AWk_op (append_rightL (i := 1) hT rfl rfl rfl rfl rfl rfl (by show ((encNs out).length + 1) * (56 + 1) ≤ _; omega)) rfl ?_
      refine ww ?_
      exact fin b4 t [] k [] _ u3 ⟨s1, .inl ⟨s2, rfl, hd2⟩, by simp, u2, u1⟩ (.refl _) (.refl _) (.refl _) (.refl _)
    · refine ww ?_
      refine AWk_opX (callX rfl rfl (hO b2 r1 9 (by omega) (by omega)) [0] (by decide) rfl rfl rfl rfl (fun _ => rfl) (fun _ => rfl) (fun _ => rfl)) rfl ?_
      rintro ⟨c2, b3⟩ s1
      simp only at s1 ⊢
      refine ww ?_
      refine AW_condL rfl (fun h6 => ?_) (fun h6 => ?_)
      · refine ww ?_
        refine AWk_opX (callX rfl rfl (hN b3 s1 150 (by omega) (by omega)) [0] (by decide) rfl rfl rfl rfl (fun _ => rfl) (fun _ => rfl) (fun _ => rfl)) rfl ?_
        rintro ⟨n, b4⟩ ⟨u1, u2, u3⟩
        simp only at u1 u2 u3 ⊢
        have hwn : IntKind.i64.wrap (120 + n) = ((120 + n.toNat : Nat) : Int) := by rw [wrap_id (by omega)]; omega
        refine AWk_step hT rfl rfl trivial ?_
        refine AWk_op (makeRow_ok (n := 120 + n.toNat) hT rfl rfl (by show AV.d (.int .i64 (IntKind.i64.wrap (120 + n))) = _; rw [hwn]) (by show AV.d (.int .i64 (IntKind.i64.wrap (120 + n))) = _; rw [hwn]) (by show 1 * _ ≤ _; omega) (by omega)) rfl ?_
        rw [zeroRow]
        refine wws ?_
        change AW _ _ _ _ _ (look _) _
        refine AW_freeze 7 2 1 (encB (List.replicate (120 + n.toNat) 0)) rfl rfl (by rw [encB_length, List.length_replicate]) (Nat.le_refl _) (RowDat_bytes _) ?_
        refine ww ?_
        refine AWk_opX (callX rfl rfl (hG b4 u3 false) [0] (by decide) rfl rfl rfl rfl (fun _ => rfl) (fun _ => rfl) (fun _ => rfl)) rfl ?_
        rintro ⟨t, b5⟩ ⟨v1, v2, v3⟩
        simp only at v1 v2 v3 ⊢
        refine ww ?_
        refine AWk_op (append_rightL (i := 1) hT rfl rfl rfl rfl rfl rfl (by show ((encNs out).length + 1) * (56 + 1) ≤ _; omega)) rfl ?_
        refine ww ?_
        exact fin b5 t _ [] [.dead] _ v3 ⟨v1, .inr ⟨v2, rfl⟩, by rw [List.length_replicate]; omega, by simp, trivial⟩ (.refl _) (.refl _) (.refl _) (.refl _)
      · refine ww ?_
        refine AWk_opX (callX rfl rfl (hG b3 s1 false) [0] (by decide) rfl rfl rfl rfl (fun _ => rfl) (fun _ => rfl) (fun _ => rfl)) rfl ?_
        rintro ⟨t, b4⟩ ⟨v1, v2, v3⟩
        simp only at v1 v2 v3 ⊢
        refine ww ?_
        refine AWk_opX (callX rfl rfl (hB b4 v3) [0] (by decide) rfl rfl rfl rfl (fun _ => rfl) (fun _ => rfl) (fun _ => rfl)) rfl ?_
        rintro ⟨v, b5⟩ ⟨u1, u2⟩
        simp only at u1 u2 ⊢
        refine ww ?_
        refine AWk_op (append_rightL (i := 1) hT rfl rfl rfl rfl rfl rfl (by show ((encNs out).length + 1) * (56 + 1) ≤ _; omega)) rfl ?_
        refine ww ?_
        exact fin b5 t v [] [] _ u2 ⟨v1, .inr ⟨v2, rfl⟩, by omega, by simp, trivial⟩ (.refl _) (.refl _) (.refl _) (.refl _)
  · refine ww ?_
    exact ret_q ⟨(out, b), ⟨h3, by simp only; omega, h1⟩, rfl, rfl⟩ rfl .dat rfl rfl rfl rfl
end Tdoc
/- The group: powers, elements, their bytes; Active, of the program and of the reference. -/
set_option linter.unusedVariables false
set_option linter.unusedSimpArgs false
namespace Tdoc
open Go Go.Proofs

def qG : Nat := 1073741789

theorem qG_div : ∀ {i : Nat}, i < 30 → qG / 2 ^ i ≠ 0 := by
  have h : ∀ i, i ∈ List.range 30 → qG / 2 ^ i ≠ 0 := by decide
  exact fun {i} hi => h i (List.mem_range.2 hi)

set_option maxHeartbeats 8000000 in
set_option maxRecDepth 100000 in
theorem power_spec (x : Nat) (hx : x < pG) : Spec Tryz.prog 231 [.d (.int .i64 (x : Int)), .d (.int .i64 1073741789)] [] (fun r h' => r = .d (.int .i64 (powX 30 x qG 1 : Int)) ∧ h' = []) := by
  have hlen : Spec Tryz.prog 263 [.d (.int .u64 (IntKind.u64.wrap 1073741789))] [] (fun r h' => r = .d (.int .i64 30) ∧ h' = []) := by
    rw [show IntKind.u64.wrap 1073741789 = 1073741789 by decide]; exact Len_spec
  generalize hfin : powX 30 x qG 1 = fin
  refine Spec_of_body hT Tryz.func231 rfl rfl rfl rfl ?_; intro E hE
  refine ww ?_
  refine wwc hlen ?_
  refine ww ?_
  refine AW_loopL (ι := Nat × Nat × Nat) (fun y => [(0, .d (.int .i64 (y.2.1 : Int))), (1, .d (.int .i64 1073741789)), (5, .d (.int .i64 (y.2.2 : Int))), (9, .d (.int .i64 30)), (10, .d (.int .i64 (y.1 : Int)))]) (fun _ => [])
    (fun y => y.1 ≤ 30 ∧ y.2.1 < pG ∧ y.2.2 < pG ∧ powX (30 - y.1) y.2.1 (qG / 2 ^ y.1) y.2.2 = fin) (fun y => 30 - y.1) (0, x, 1) ⟨by omega, hx, show 1 < pG by decide, by simpa using hfin⟩ ⟨.refl _, .refl _, .refl _, .refl _, .refl _, trivial⟩ (HLe.refl _) ?_
  rintro ⟨i, x, out⟩ ⟨hi, hx, ho, hg⟩
  simp only at hi hx ho hg ⊢
  refine ww ?_
  refine AW_condL rfl (fun h1 => ?_) (fun h1 => ?_)
  · have h1' : i < 30 := by simp at h1; omega
    have hq := qG_div h1'
    have hq2 : qG / 2 ^ i < 9223372036854775808 := Nat.lt_of_le_of_lt (Nat.div_le_self _ _) (by decide)
    obtain ⟨m, hm⟩ : ∃ m, 30 - i = m + 1 := ⟨30 - i - 1, by omega⟩
    rw [hm, powX, if_neg hq, Nat.div_div_eq_div_mul, ← Nat.pow_succ] at hg
    have hm' : m = 30 - (i + 1) := by omega
    subst hm'
    have hsh : Int.fdiv 1073741789 (2 ^ (min ((i : Int)).toNat IntKind.i64.bits)) = ((qG / 2 ^ i : Nat) : Int) := by
      rw [show min ((i : Int)).toNat IntKind.i64.bits = i by simp [IntKind.bits]; omega]
      exact shr_nat qG i
    have hand : IntKind.i64.wrap ((BitVec.ofInt IntKind.i64.bits (Int.fdiv 1073741789 (2 ^ (min ((i : Int)).toNat IntKind.i64.bits))) &&& BitVec.ofInt IntKind.i64.bits 1).toNat : Int) = ((qG / 2 ^ i % 2 : Nat) : Int) := by
      rw [hsh]
      have := and_nat (a := qG / 2 ^ i) (b := 1) hq2 (by omega)
      rw [Nat.and_one_is_mod] at this
      exact this
    have hxx := mulP_lt hx hx
    have hox := mulP_lt ho hx
    have hm1 : IntKind.i64.wrap ((x : Int) * (x : Int)) = ((x * x : Nat) : Int) := by rw [← Int.natCast_mul]; exact wrap_id (by omega)
    have hm2 : IntKind.i64.wrap ((out : Int) * (x : Int)) = ((out * x : Nat) : Int) := by rw [← Int.natCast_mul]; exact wrap_id (by omega)
    have ht1 : Int.tmod (IntKind.i64.wrap ((x : Int) * (x : Int))) 2147483579 = ((x * x % pG : Nat) : Int) := by rw [hm1]; rfl
    have ht2 : Int.tmod (IntKind.i64.wrap ((out : Int) * (x : Int))) 2147483579 = ((out * x % pG : Nat) : Int) := by rw [hm2]; rfl
    have hwi : IntKind.i64.wrap ((i : Int) + 1) = ((i + 1 : Nat) : Int) := by rw [wrap_id (by omega)]; omega
    have hl1 : x * x % pG < pG := Nat.mod_lt _ (by decide)
    have hl2 : out * x % pG < pG := Nat.mod_lt _ (by decide)
    generalize qG / 2 ^ i % 2 = bt at hand hg
    refine ww ?_
    refine AW_condL rfl (fun h2 => ?_) (fun h2 => ?_)
    · have h2' : bt = 1 := by rw [hand] at h2; simp at h2; omega
      rw [if_pos h2'] at hg
      refine ww ?_
      exact ⟨(i + 1, x * x % pG, out * x % pG), ⟨h1', hl1, hl2, hg⟩, by simp only; omega, ⟨.int ht1, .refl _, .int ht2, .refl _, .int hwi, trivial⟩, HLe.refl _⟩
    · have h2' : ¬ bt = 1 := by rw [hand] at h2; simp at h2; omega
      rw [if_neg h2'] at hg
      refine ww ?_
      exact ⟨(i + 1, x * x % pG, out), ⟨h1', hl1, ho, hg⟩, by simp only; omega, ⟨.int ht1, .refl _, .refl _, .refl _, .int hwi, trivial⟩, HLe.refl _⟩
  · have h1' : i = 30 := by simp at h1; omega
    subst h1'
    have hg' : out = fin := by rw [← hg]; rfl
    subst hg'
    refine ww ?_
    exact wwr

def residG (x : Int) : Bool := decide (0 < x ∧ x < 2147483579)
def elemG (x : Int) : Bool := residG x && decide (x ≠ 1) && decide (powX 30 x.toNat qG 1 = 1)

set_option maxHeartbeats 8000000 in
set_option maxRecDepth 100000 in
theorem residue_spec (x : Int) : Spec Tryz.prog 230 [.d (.int .i64 x)] [] (fun r h' => r = .d (.bool (residG x)) ∧ h' = []) := by
  refine Spec_of_body hT Tryz.func230 rfl rfl rfl rfl ?_; intro E hE
  refine ww ?_
  exact ret_q ⟨rfl, rfl⟩ rfl (.bool (by unfold residG; rw [Bool.decide_and])) rfl rfl rfl rfl
set_option maxHeartbeats 8000000 in
set_option maxRecDepth 100000 in
theorem residueR_spec (x : Int) : Spec Tryz.prog 210 [.d (.int .i64 x)] [] (fun r h' => r = .d (.bool (residG x)) ∧ h' = []) := by
  refine Spec_of_body hT Tryz.func210 rfl rfl rfl rfl ?_; intro E hE
  refine ww ?_
  exact ret_q ⟨rfl, rfl⟩ rfl (.bool (by unfold residG; rw [Bool.decide_and]; congr 1)) rfl rfl rfl rfl

theorem ne_dec (x y : Int) : (x != y) = decide (x ≠ y) := by rw [Bool.eq_iff_iff]; simp
theorem eq_dec1 (n : Nat) : ((n : Int) == 1) = decide (n = 1) := by rw [Bool.eq_iff_iff]; simp; omega
set_option maxHeartbeats 8000000 in
set_option maxRecDepth 100000 in
theorem Element_spec (x : Int) : Spec Tryz.prog 163 [.d (.int .i64 x)] [] (fun r h' => r = .d (.bool (elemG x)) ∧ h' = []) := by
  have hres := residue_spec x
  have hp : residG x = true → Spec Tryz.prog 231 [.d (.int .i64 x), .d (.int .i64 1073741789)] [] (fun r h' => r = .d (.int .i64 (powX 30 x.toNat qG 1 : Int)) ∧ h' = []) := fun hr => by
    have hr : 0 < x ∧ x < 2147483579 := of_decide_eq_true hr
    have hp := power_spec x.toNat (by unfold pG; omega)
    rw [Int.toNat_of_nonneg (by omega)] at hp
    exact hp
  unfold elemG
  generalize powX 30 x.toNat qG 1 = pw at hp
  generalize residG x = c at hp hres
  refine Spec_of_body hT Tryz.func163 rfl rfl rfl rfl ?_; intro E hE
  refine ww ?_
  refine wwc hres ?_
  refine ww ?_
  refine AWk_gop (v := .d (.int .i64 (pw : Int))) rfl rfl rfl (fun hg => ⟨by first | exact True.intro | exact ⟨hg, True.intro⟩ | exact ⟨hg, hg, True.intro⟩, callS0 rfl rfl (hp (by simp [gval] at hg; exact hg.1)) rfl rfl rfl⟩) ?_
  refine ww ?_
  exact ret_q ⟨rfl, rfl⟩ rfl (.bool (by rw [ne_dec, eq_dec1])) rfl rfl rfl rfl

set_option maxHeartbeats 8000000 in
set_option maxRecDepth 100000 in
theorem ElementR_spec (x : Int) : Spec Tryz.prog 139 [.d (.int .i64 x)] [] (fun r h' => r = .d (.bool (elemG x)) ∧ h' = []) := by
  have hres := residueR_spec x
  have hp : residG x = true → Spec Tryz.prog 97 [.d (.int .i64 x), .d (.int .i64 1073741789)] [] (fun r h' => r = .d (.int .i64 (powX 30 x.toNat qG 1 : Int)) ∧ h' = []) := fun hr => by
    have hr : 0 < x ∧ x < 2147483579 := of_decide_eq_true hr
    have hp := Pow_spec x.toNat qG 30 (by unfold pG; omega) (by decide) (by decide)
    rw [Int.toNat_of_nonneg (by omega)] at hp
    exact hp
  unfold elemG
  generalize powX 30 x.toNat qG 1 = pw at hp
  generalize residG x = c at hp hres
  refine Spec_of_body hT Tryz.func139 rfl rfl rfl rfl ?_; intro E hE
  refine ww ?_
  refine wwc hres ?_
  refine ww ?_
  refine AWk_gop (v := .d (.int .i64 (pw : Int))) rfl rfl rfl (fun hg => ⟨by first | exact True.intro | exact ⟨hg, True.intro⟩ | exact ⟨hg, hg, True.intro⟩, callS0 rfl rfl (hp (by simp [gval] at hg; exact hg.1)) rfl rfl rfl⟩) ?_
  refine ww ?_
  exact ret_q ⟨rfl, rfl⟩ rfl (.bool (by rw [ne_dec, eq_dec1])) rfl rfl rfl rfl

theorem elemG_range {x : Int} (h : elemG x = true) : 0 < x ∧ x < 2147483579 := by
  unfold elemG residG at h
  simp only [Bool.and_eq_true] at h
  exact of_decide_eq_true h.1.1

/-! bytes of numbers -/
def octB : Nat → Nat → List UInt8
  | 0, _ => []
  | m + 1, n => octB m (n / 256) ++ [UInt8.ofNat (n % 256)]
theorem octB_length : ∀ (m n : Nat), (octB m n).length = m
  | 0, _ => rfl
  | m + 1, n => by simp [octB, octB_length m]
theorem octB_succ : ∀ (m n : Nat), octB (m + 1) n = UInt8.ofNat (n / 256 ^ m % 256) :: octB m n
  | 0, n => by simp [octB]
  | m + 1, n => by
    have ih := octB_succ m (n / 256)
    rw [octB, ih, octB, Nat.div_div_eq_div_mul, Nat.pow_succ, Nat.mul_comm (256 ^ m)]
    rfl
theorem set_repl {α : Type} (z b : α) (l : List α) : ∀ (k : Nat), (List.replicate (k + 1) z ++ l).set k b = List.replicate k z ++ b :: l
  | 0 => rfl
  | k + 1 => by
    have := set_repl z b l k
    rw [List.replicate_succ, List.cons_append, List.set_cons_succ, this, ← List.cons_append, ← List.replicate_succ]

set_option maxHeartbeats 8000000 in
set_option maxRecDepth 100000 in
theorem Octets_spec (n m : Nat) (hm : m ≤ 7) (hn : n < 256 ^ m) : Spec Tryz.prog 164 [.d (.int .i64 (n : Int)), .d (.int .i64 (m : Int))] [] (fun r h' => r = .tup [.d (.sl 1 (encB (octB m n))), .d (.int .i64 0)] ∧ h' = []) := by
  have hn8 : n < 2 ^ (8 * m) := by rw [show (256 : Nat) = 2 ^ 8 by rfl, ← Nat.pow_mul] at hn; exact hn
  have hn2 : n < 72057594037927936 := Nat.lt_of_lt_of_le hn (Nat.le_trans (Nat.pow_le_pow_right (by omega) hm) (by decide))
  have hw8 : IntKind.i64.wrap (8 * (m : Int)) = ((8 * m : Nat) : Int) := by rw [wrap_id (by omega)]; omega
  have hz : Int.fdiv (n : Int) (2 ^ (min (IntKind.i64.wrap (8 * (m : Int))).toNat IntKind.i64.bits)) = 0 := by
    rw [hw8, show min (((8 * m : Nat) : Int)).toNat IntKind.i64.bits = 8 * m by simp [IntKind.bits]; omega, shr_nat, Nat.div_eq_of_lt hn8]; rfl
  refine Spec_of_body hT Tryz.func164 rfl rfl rfl rfl ?_; intro E hE
  refine ww ?_
  refine AW_condL rfl (fun h1 => ?_) (fun h1 => ?_)
  · exact absurd h1 (by simp; omega)
  refine ww ?_
  refine AW_condL rfl (fun h2 => ?_) (fun h2 => ?_)
  · refine absurd h2 ?_
    rw [hz]; simp
  refine ww ?_
  refine AWk_op (makeRow_ok (n := m) hT rfl rfl rfl rfl (by show 1 * m ≤ _; omega) (by omega)) rfl ?_
  rw [zeroRow]
  refine ww ?_
  refine AW_loopL (ι := Nat) (fun i => [(0, .d (.int .i64 (n : Int))), (1, .d (.int .i64 (m : Int))), (6, .row 0 0 m m), (25, .d (.int .i64 (m : Int))), (26, .d (.int .i64 (i : Int)))]) (fun i => [.row (byteAV (List.replicate (m - i) 0 ++ octB i n))])
    (fun i => i ≤ m) (fun i => m - i) 0 (by omega) ⟨.refl _, .refl _, .refl _, .refl _, .refl _, trivial⟩ ⟨by simp [octB]; exact ObLe.refl _, trivial⟩ ?_
  intro i hi
  refine ww ?_
  refine AW_condL rfl (fun h3 => ?_) (fun h3 => ?_)
  · have h3' : i < m := by simp at h3; omega
    have hwi : IntKind.i64.wrap ((i : Int) + 1) = ((i + 1 : Nat) : Int) := by rw [wrap_id (by omega)]; omega
    have hix : IntKind.i64.wrap (IntKind.i64.wrap ((m : Int) - 1) - (i : Int)) = ((m - 1 - i : Nat) : Int) := by rw [wrap_id (n := (m : Int) - 1) (by omega), wrap_id (by omega)]; omega
    have hwb : IntKind.i64.wrap (8 * (i : Int)) = ((8 * i : Nat) : Int) := by rw [wrap_id (by omega)]; omega
    have hby : IntKind.u8.wrap (Int.fdiv (n : Int) (2 ^ (min (IntKind.i64.wrap (8 * (i : Int))).toNat IntKind.i64.bits))) = ((UInt8.ofNat (n / 256 ^ i % 256)).toNat : Int) := by
      rw [hwb, show min (((8 * i : Nat) : Int)).toNat IntKind.i64.bits = 8 * i by simp [IntKind.bits]; omega, shr_nat, wrapu8_mod, toNat_ofNat (Nat.mod_lt _ (by omega)), Nat.pow_mul]; simp
    have hrow : (byteAV (List.replicate (m - i) 0 ++ octB i n)).set (m - 1 - i) (AV.d (.int .u8 (IntKind.u8.wrap (Int.fdiv (n : Int) (2 ^ (min (IntKind.i64.wrap (8 * (i : Int))).toNat IntKind.i64.bits)))))) = byteAV (List.replicate (m - (i + 1)) 0 ++ octB (i + 1) n) := by
      rw [hby, octB_succ, show m - i = (m - (i + 1)) + 1 by omega, show m - 1 - i = m - (i + 1) by omega]
      have := set_repl (0 : UInt8) (UInt8.ofNat (n / 256 ^ i % 256)) (octB i n) (m - (i + 1))
      rw [← this]
      simp [byteAV, List.map_set]
    have hlen : (byteAV (List.replicate (m - i) 0 ++ octB i n)).length = m := by rw [byteAV_length]; simp [octB_length]; omega
    generalize byteAV (List.replicate (m - i) 0 ++ octB i n) = row at hrow hlen
    refine ww ?_
    refine AWk_op (OpS_of_pure (rowAddr_ok (sz := 1) hT rfl rfl rfl rfl (by rw [hix]; omega))) rfl ?_
    refine AWk_op0 (store1_ok hT rfl rfl rfl rfl rfl rfl (by rw [hix, hlen]; simp; omega)) rfl ?_
    refine ww ?_
    refine ⟨i + 1, by omega, by omega, ⟨.refl _, .refl _, .refl _, .refl _, .int hwi, trivial⟩, ⟨?_, trivial⟩⟩
    rw [← hrow]
    exact ObLe.row (by rw [hix, show 0 + (((m - 1 - i : Nat) : Int)).toNat * 1 = m - 1 - i by simp]; rfl)
  · have h3' : i = m := by simp at h3; omega
    subst h3'
    rw [Nat.sub_self, List.replicate_zero, List.nil_append]
    refine wwe ?_
    refine AW_freeze 6 0 1 (encB (octB i n)) rfl rfl (by rw [encB_length, octB_length]) (Nat.le_refl _) (RowDat_bytes _) ?_
    refine ww ?_
    exact wwr

set_option maxHeartbeats 8000000 in
set_option maxRecDepth 100000 in
theorem GEncode_spec (x : Int) : Spec Tryz.prog 96 [.d (.int .i64 x)] [] (fun r h' => r = .tup [.d (.sl 1 (encB (if elemG x = true then octB 4 x.toNat else []))), .d (.int .i64 (if elemG x = true then 0 else 10))] ∧ h' = []) := by
  have hel := Element_spec x
  have hoc : elemG x = true → Spec Tryz.prog 164 [.d (.int .i64 x), .d (.int .i64 4)] [] (fun r h' => r = .tup [.d (.sl 1 (encB (octB 4 x.toNat))), .d (.int .i64 0)] ∧ h' = []) := fun h => by
    have hr := elemG_range h
    have := Octets_spec x.toNat 4 (by omega) (by omega)
    rw [Int.toNat_of_nonneg (by omega)] at this
    exact this
  generalize octB 4 x.toNat = bs at hoc
  generalize elemG x = c at hel hoc
  refine Spec_of_body hT Tryz.func96 rfl rfl rfl rfl ?_; intro E hE
  refine ww ?_
  refine wwc hel ?_
  refine ww ?_
  refine AW_condL rfl (fun h1 => ?_) (fun h1 => ?_)
  · obtain rfl : c = false := by simpa using h1
    refine ww ?_
    exact wwr
  · obtain rfl : c = true := by simpa using h1
    have hoc := hoc rfl
    refine ww ?_
    refine wwc hoc ?_
    refine ww ?_
    exact wwr

theorem four_byte (n k : Nat) (h : n < 9223372036854775808) : IntKind.u8.wrap (Int.fdiv (n : Int) (2 ^ (min ((k : Int)).toNat IntKind.i64.bits))) = ((UInt8.ofNat (n / 2 ^ (min k 64) % 256)).toNat : Int) := by
  rw [show min ((k : Int)).toNat IntKind.i64.bits = min k 64 by simp [IntKind.bits], shr_nat, wrapu8_mod, toNat_ofNat (Nat.mod_lt _ (by omega))]; simp

set_option maxHeartbeats 8000000 in
set_option maxRecDepth 100000 in
theorem Four_spec (n : Nat) (hn : n < 9223372036854775808) : Spec Tryz.prog 176 [.d (.int .i64 (n : Int))] [] (fun r h' => r = .d (.sl 1 (encB (octB 4 n))) ∧ h' = []) := by
  have h0 : IntKind.u8.wrap (n : Int) = ((UInt8.ofNat (n % 256)).toNat : Int) := by rw [wrapu8_mod, toNat_ofNat (Nat.mod_lt _ (by omega))]; simp
  have h1 := four_byte n 8 hn
  have h2 := four_byte n 16 hn
  have h3 := four_byte n 24 hn
  have ho : octB 4 n = [UInt8.ofNat (n / 2 ^ 24 % 256), UInt8.ofNat (n / 2 ^ 16 % 256), UInt8.ofNat (n / 2 ^ 8 % 256), UInt8.ofNat (n % 256)] := by
    simp only [octB, Nat.div_div_eq_div_mul]; rfl
  refine Spec_of_body hT Tryz.func176 rfl rfl rfl rfl ?_; intro E hE
  refine ww ?_
  exact ret_q ⟨rfl, rfl⟩ rfl (.dat' (by rw [ho]; show [[Dat.int .u8 _], [Dat.int .u8 _], [Dat.int .u8 _], [Dat.int .u8 _]] = _; exact congr (congrArg _ (congrArg (fun z => [Dat.int .u8 z]) h3)) (congr (congrArg _ (congrArg (fun z => [Dat.int .u8 z]) h2)) (congr (congrArg _ (congrArg (fun z => [Dat.int .u8 z]) h1)) (congr (congrArg _ (congrArg (fun z => [Dat.int .u8 z]) h0)) rfl))))) rfl rfl rfl rfl

set_option maxHeartbeats 8000000 in
set_option maxRecDepth 100000 in
theorem REncode_spec (x : Int) : Spec Tryz.prog 107 [.d (.int .i64 x)] [] (fun r h' => r = .tup [.d (.sl 1 (encB (if elemG x = true then octB 4 x.toNat else []))), .d (.int .i64 (if elemG x = true then 0 else 10))] ∧ h' = []) := by
  have hel := ElementR_spec x
  have hoc : elemG x = true → Spec Tryz.prog 176 [.d (.int .i64 x)] [] (fun r h' => r = .d (.sl 1 (encB (octB 4 x.toNat))) ∧ h' = []) := fun h => by
    have hr := elemG_range h
    have := Four_spec x.toNat (by omega)
    rw [Int.toNat_of_nonneg (by omega)] at this
    exact this
  generalize octB 4 x.toNat = bs at hoc
  generalize elemG x = c at hel hoc
  refine Spec_of_body hT Tryz.func107 rfl rfl rfl rfl ?_; intro E hE
  refine ww ?_
  refine wwc hel ?_
  refine ww ?_
  refine AW_condL rfl (fun h1 => ?_) (fun h1 => ?_)
  · obtain rfl : c = false := by simpa using h1
    refine ww ?_
    exact wwr
  · obtain rfl : c = true := by simpa using h1
    have hoc := hoc rfl
    refine ww ?_
    refine wwc hoc ?_
    refine ww ?_
    exact wwr

def nearG (n : Int) : Int := 1 + n % 1073741788
set_option maxHeartbeats 8000000 in
set_option maxRecDepth 100000 in
theorem Near_spec (n : Int) : Spec Tryz.prog 98 [.d (.int .i64 n)] [] (fun r h' => r = .d (.int .i64 (nearG n)) ∧ h' = []) := by
  have he := emod_tmod (x := n) (n := 1073741788) (by omega)
  have hr1 := Int.emod_nonneg n (b := 1073741788) (by omega)
  have hr2 := Int.emod_lt_of_pos n (b := 1073741788) (by omega)
  unfold nearG
  refine Spec_of_body hT Tryz.func98 rfl rfl rfl rfl ?_; intro E hE
  refine ww ?_
  refine AW_condL rfl (fun h2 => ?_) (fun h2 => ?_)
  · have h2' : n.tmod 1073741788 < 0 := by simpa using h2
    rw [if_pos h2'] at he
    have hw : IntKind.i64.wrap (n.tmod 1073741788 + 1073741788) = n % 1073741788 := by rw [he]; exact wrap_id (by omega)
    refine ww ?_
    exact ret_q ⟨rfl, rfl⟩ rfl (.int (by rw [hw]; exact wrap_id (by omega))) rfl rfl rfl rfl
  · have h2' : ¬ n.tmod 1073741788 < 0 := by simpa using h2
    rw [if_neg h2'] at he
    refine ww ?_
    exact ret_q ⟨rfl, rfl⟩ rfl (.int (by rw [he]; exact wrap_id (by omega))) rfl rfl rfl rfl

theorem powX_lt : ∀ (m x k out : Nat), out < pG → powX m x k out < pG
  | 0, x, k, out, h => h
  | m + 1, x, k, out, h => by
    rw [powX]
    split
    · exact h
    · refine powX_lt m _ _ _ ?_
      split
      · exact Nat.mod_lt _ (by decide)
      · exact h
def pointG (n : Int) : Int := (powX 31 4 (nearG n).toNat 1 : Nat)
theorem pointG_range (n : Int) : 0 ≤ pointG n ∧ pointG n < 2147483579 := by
  have := powX_lt 31 4 (nearG n).toNat 1 (by decide)
  unfold pointG
  unfold pG at this
  omega
set_option maxHeartbeats 8000000 in
set_option maxRecDepth 100000 in
theorem Point_spec (n : Int) : Spec Tryz.prog 43 [.d (.int .i64 n)] [] (fun r h' => r = .d (.int .i64 (pointG n)) ∧ h' = []) := by
  have hn := Near_spec n
  have hr1 := Int.emod_nonneg n (b := 1073741788) (by omega)
  have hr2 := Int.emod_lt_of_pos n (b := 1073741788) (by omega)
  have hp := Pow_spec 4 (nearG n).toNat 31 (by decide) (by unfold nearG; omega) (by unfold nearG; omega)
  rw [Int.toNat_of_nonneg (by unfold nearG; omega)] at hp
  have hp : Spec Tryz.prog 97 [.d (.int .i64 4), .d (.int .i64 (nearG n))] [] (fun r h' => r = .d (.int .i64 (pointG n)) ∧ h' = []) := hp
  generalize pointG n = y at hp
  generalize nearG n = z at hn hp
  refine Spec_of_body hT Tryz.func43 rfl rfl rfl rfl ?_; intro E hE
  refine ww ?_
  refine wwc hn ?_
  refine ww ?_
  refine wwc hp ?_
  refine ww ?_
  exact wwr

def activeG (key : Int) : List UInt8 × Int := if elemG key = true then wrapG 15 [.mk 4 (octB 4 key.toNat) []] else ([], 10)

set_option maxHeartbeats 8000000 in
set_option maxRecDepth 100000 in
theorem Active_spec (key : Int) : Spec Tryz.prog 42 [.d (.int .i64 key)] [] (fun r h' => r = .tup [.d (.sl 1 (encB (activeG key).1)), .d (.int .i64 (activeG key).2)] ∧ h' = []) := by
  have he := GEncode_spec key
  have hlen := octB_length 4 key.toNat
  have hw1 := wrL_one_le 4 (octB 4 key.toNat) []
  have hw := Wrap_spec 15 (by omega) [.mk 4 (octB 4 key.toNat) []] (by simp) ⟨⟨by omega, by omega, by simp, trivial⟩, trivial⟩ (by simp [sizeL, sizeN]) (by simp only [wrL, List.length_nil] at hw1 ⊢; omega)
  unfold activeG
  generalize elemG key = c at he
  generalize octB 4 key.toNat = bs at he hw
  generalize wrapG 15 [.mk 4 bs []] = q at hw
  refine Spec_of_body hT Tryz.func42 rfl rfl rfl rfl ?_; intro E hE
  refine ww ?_
  refine wwc he ?_
  cases c
  · refine ww ?_
    refine AW_condL rfl (fun h1 => ?_) (fun h1 => ?_)
    · refine ww ?_
      exact wwr
    · exact absurd h1 (by simp)
  · refine ww ?_
    refine AW_condL rfl (fun h1 => ?_) (fun h1 => ?_)
    · exact absurd h1 (by simp)
    · refine ww ?_
      refine wwc hw ?_
      refine ww ?_
      exact wwr

set_option maxHeartbeats 8000000 in
set_option maxRecDepth 100000 in
theorem ActiveR_spec (key : Int) : Spec Tryz.prog 52 [.d (.int .i64 key)] [] (fun r h' => r = .tup [.d (.sl 1 (encB (activeG key).1)), .d (.int .i64 (activeG key).2)] ∧ h' = []) := by
  have he := REncode_spec key
  have hlen := octB_length 4 key.toNat
  have hp := Prim_spec 4 (octB 4 key.toNat) (by omega)
  have hw1 := wrL_one_le 4 (octB 4 key.toNat) []
  have hw := WrapR_spec 15 (by omega) [.mk 4 (octB 4 key.toNat) []] (by simp) ⟨⟨by omega, by omega, by simp, trivial⟩, trivial⟩ (by simp [sizeL, sizeN])
  unfold activeG
  generalize elemG key = c at he
  generalize octB 4 key.toNat = bs at he hw hp
  have hp : Spec Tryz.prog 67 [.d (.int .i64 4), .d (.sl 1 (encB bs))] [] (fun r h' => r = .agg [.d (.int .i64 4), .d (.sl 1 (encB bs)), .d (.sl 3 [])] ∧ h' = []) := hp
  generalize wrapG 15 [.mk 4 bs []] = q at hw
  refine Spec_of_body hT Tryz.func52 rfl rfl rfl rfl ?_; intro E hE
  refine ww ?_
  refine wwc he ?_
  cases c
  · refine ww ?_
    refine AW_condL rfl (fun h1 => ?_) (fun h1 => ?_)
    · refine ww ?_
      exact wwr
    · exact absurd h1 (by simp)
  · refine ww ?_
    refine AW_condL rfl (fun h1 => ?_) (fun h1 => ?_)
    · exact absurd h1 (by simp)
    · refine ww ?_
      refine wwc hp ?_
      refine ww ?_
      refine wwc hw ?_
      refine ww ?_
      exact wwr
end Tdoc
/- Plain: what is read strictly is read loosely; what is read can be encoded; how many objects, how much. -/
set_option linter.unusedVariables false
set_option linter.unusedSimpArgs false
namespace Tdoc
open Go Go.Proofs

theorem loopX_sub {f g : Rd} {e : Nat} (h : ∀ p c, (f p c).2.1 = 0 → g p c = f p c) : ∀ (m p c : Nat) (out : List Node), (loopX f e m p c out).2.1 = 0 → loopX g e m p c out = loopX f e m p c out
  | 0, p, c, out, _ => rfl
  | m + 1, p, c, out, h0 => by
    rw [loopX] at h0 ⊢
    rw [loopX]
    by_cases hp : p < e
    · rw [if_pos hp] at h0 ⊢
      rw [if_pos hp]
      by_cases hf : (f p c).2.1 = 0
      · rw [h p c hf]
        rw [if_neg (by simp [hf])] at h0 ⊢
        rw [if_neg (by simp [hf])]
        exact loopX_sub h m _ _ _ h0
      · rw [if_pos hf] at h0
        exact absurd h0 hf
    · rw [if_neg hp, if_neg hp]

theorem lenX_loose {b : List UInt8} {e q : Nat} (op : Bool) (h : (lenX b e false true q).2.1 = 0) : lenX b e op false q = lenX b e false true q ∧ (lenX b e false true q).1 ≠ -1 := by
  unfold lenX at h ⊢
  generalize numB b (q + 1) (byteAt b q % 16) 0 = nb at *
  generalize 2 ^ (8 * (byteAt b q % 16 - 1)) = pw at *
  generalize byteAt b q = x at *
  by_cases h1 : e ≤ q
  · simp [h1] at h
  by_cases h2 : x < 128
  · simp [h1, h2]
  by_cases h3 : 132 < x
  · simp [h1, h2, h3] at h
  by_cases h4 : x = 128
  · simp [h1, h2, h4] at h
  by_cases h5 : e < q + 1 + x % 16
  · simp [h1, h2, h3, h4, h5] at h
  by_cases h6 : nb < 128 ∨ nb / pw = 0
  · simp only [h1, h2, h3, h4, h5, h6, if_true, if_false, false_and, or_false, and_self] at h
    exact absurd h (by simp)
  · simp only [h1, h2, h3, h4, h5, h6, if_true, if_false, false_and, or_false, and_false, Bool.false_eq_true]
    exact ⟨trivial, by omega⟩

theorem objY_sub {b : List UInt8} {g g' : Nat → Rd} {e d : Nat} {t : Int} {n : Int × Int × Nat} {c : Nat} (hg : ∀ e p c, (g e p c).2.1 = 0 → g' e p c = g e p c) (hn : n.1 ≠ -1) (h : (objY b g e d t n c).2.1 = 0) : objY b g' e d t n c = objY b g e d t n c := by
  unfold objY at h ⊢
  split
  · rfl
  split
  · rfl
  split
  · rfl
  split
  · rfl
  rename_i g0 g1 g2 g3
  simp only [if_neg g0, if_neg g1, if_neg g2, if_neg g3, if_neg hn] at h ⊢
  split
  · rename_i hc
    simp only [if_pos hc] at h
    rw [loopX_sub (fun p c hf => hg _ p c hf) _ _ _ _ h]
  · rfl

theorem objX_sub (b : List UInt8) : ∀ (k e d p c : Nat), (objX b true k e d p c).2.1 = 0 → objX b false k e d p c = objX b true k e d p c
  | 0, e, d, p, c, h => rfl
  | k + 1, e, d, p, c, h => by
    rw [objX] at h
    rw [objX, objX]
    by_cases ht : (tagX b e p).2.1 ≠ 0
    · rw [if_pos ht, if_pos ht]
    rw [if_neg ht] at h
    rw [if_neg ht, if_neg ht]
    rw [Bool.not_true, Bool.and_false] at h ⊢
    rw [Bool.not_false, Bool.and_true]
    by_cases hl : (lenX b e false true (tagX b e p).2.2).2.1 = 0
    · obtain ⟨h1, h2⟩ := lenX_loose (tagCons (tagX b e p).1) hl
      rw [h1]
      exact objY_sub (fun e' p c hf => objX_sub b k e' (d + 1) p c hf) h2 h
    · unfold objY at h
      rw [if_pos hl] at h
      exact absurd h hl

theorem parseX_sub {b : List UInt8} (h : (parseX b true).2 = 0) : parseX b false = parseX b true := by
  unfold parseX at h ⊢
  split
  · rfl
  · rename_i hb
    rw [if_neg hb] at h
    rw [loopX_sub (fun p c hf => objX_sub b 9 _ _ p c hf) _ _ _ _ h]

/-! what is read -/
mutual
def wgtN : Node → Nat
  | .mk _ v k => 11 + v.length + wgtL k
def wgtL : List Node → Nat
  | [] => 0
  | a :: l => wgtN a + wgtL l
end

theorem wgtL_append : ∀ (a b : List Node), wgtL (a ++ b) = wgtL a + wgtL b
  | [], b => by simp [wgtL]
  | x :: a, b => by rw [List.cons_append, wgtL, wgtL, wgtL_append a b]; omega
theorem sizeL_append : ∀ (a b : List Node), sizeL (a ++ b) = sizeL a + sizeL b
  | [], b => by simp [sizeL]
  | x :: a, b => by rw [List.cons_append, sizeL, sizeL, sizeL_append a b]; omega

def Good (f : Rd) (d : Nat) : Prop := ∀ p c, (f p c).2.1 = 0 → (chkN d (f p c).1 0).1 = 0 ∧ (f p c).2.2.2 = c + sizeN (f p c).1 ∧ wgtN (f p c).1 + 11 * p ≤ 11 * (f p c).2.2.1
def GoodL (d p c : Nat) (out : List Node) (r : List Node × Int × Nat × Nat) : Prop := r.2.1 = 0 → ∃ new, r.1 = out ++ new ∧ (∀ n, n ∈ new → (chkN d n 0).1 = 0) ∧ r.2.2.2 = c + sizeL new ∧ wgtL new + 11 * p ≤ 11 * r.2.2.1

theorem GoodL.step {f : Rd} {d p c : Nat} {out : List Node} {r : List Node × Int × Nat × Nat} (hf : Good f d) (h0 : (f p c).2.1 = 0) (h : GoodL d (f p c).2.2.1 (f p c).2.2.2 (out ++ [(f p c).1]) r) : GoodL d p c out r := by
  intro hr
  obtain ⟨new, h1, h2, h3, h4⟩ := h hr
  obtain ⟨g1, g2, g3⟩ := hf p c h0
  refine ⟨(f p c).1 :: new, by rw [h1]; simp, fun n hn => ?_, by rw [h3, g2, sizeL]; omega, by rw [wgtL]; omega⟩
  rcases List.mem_cons.1 hn with rfl | hn
  · exact g1
  · exact h2 n hn
theorem GoodL.nil {d p c : Nat} {out : List Node} {e : Int} {q : Nat} (hq : p ≤ q) : GoodL d p c out (out, e, q, c) := fun _ => ⟨[], by simp, fun n hn => (by cases hn), by simp [sizeL], by simp [wgtL]; omega⟩

theorem loopX_good {f : Rd} {d e : Nat} (hf : Good f d) : ∀ (m p c : Nat) (out : List Node), GoodL d p c out (loopX f e m p c out)
  | 0, p, c, out => GoodL.nil (Nat.le_refl _)
  | m + 1, p, c, out => by
    rw [loopX]
    split
    · split
      · rename_i h; exact fun h0 => absurd h0 h
      · rename_i h
        exact GoodL.step hf (by simpa using h) (loopX_good hf m _ _ _)
    · exact GoodL.nil (Nat.le_refl _)
theorem kidsX_good {b : List UInt8} {f : Rd} {d e : Nat} (hf : Good f d) : ∀ (m p c : Nat) (out : List Node), GoodL d p c out (kidsX b f e m p c out)
  | 0, p, c, out => fun h => absurd h (by simp [kidsX])
  | m + 1, p, c, out => by
    rw [kidsX]
    split
    · exact fun h => absurd h (by simp)
    · split
      · exact GoodL.nil (by omega)
      · split
        · rename_i h; exact fun h0 => absurd h0 h
        · rename_i h
          exact GoodL.step hf (by simpa using h) (kidsX_good hf m _ _ _)

theorem loop_end {f : Rd} {e : Nat} (hf : RdOk f e) : ∀ (m p c : Nat) (out : List Node), p ≤ e → c ≤ 256 → e < p + m → (loopX f e m p c out).2.1 = 0 → (loopX f e m p c out).2.2.1 = e
  | 0, p, c, out, hp, hc, hm, h0 => by omega
  | m + 1, p, c, out, hp, hc, hm, h0 => by
    rw [loopX] at h0 ⊢
    by_cases hpe : p < e
    · rw [if_pos hpe] at h0 ⊢
      by_cases h : (f p c).2.1 = 0
      · rw [if_neg (by simp [h])] at h0 ⊢
        have h1 := hf p c hp hc
        have h2 := h1.2.2.2 h
        exact loop_end hf m _ _ _ h1.2.1 h2.2 (by omega) h0
      · rw [if_pos h] at h0; exact absurd h0 h
    · rw [if_neg hpe]
      show p = e
      omega

theorem chkL_of {d : Nat} : ∀ {l : List Node} {c : Nat}, (∀ n, n ∈ l → (chkN d n 0).1 = 0) → (chkL d l c).1 = 0
  | [], _, _ => rfl
  | a :: l, c, h => by
    rw [chkL, if_pos (by rw [chkN_any d a c 0]; exact h a (by simp))]
    exact chkL_of fun n hn => h n (by simp [hn])

theorem tagX_inv {b : List UInt8} {e p : Nat} (h : (tagX b e p).2.1 = 0) : p < (tagX b e p).2.2 ∧ tagOk (tagX b e p).1 = true := by
  unfold tagX at h ⊢
  split at h
  · exact absurd h (by simp)
  · rename_i h1
    rw [if_neg h1]
    split at h
    · rename_i h2
      rw [if_pos h2]
      split at h
      · exact absurd h (by simp)
      · rename_i h3
        rw [if_neg h3]
        split at h
        · rename_i h4
          rw [if_pos h4]
          exact ⟨by simp only; omega, h4⟩
        · exact absurd h (by simp)
    · rename_i h2
      rw [if_neg h2]
      split at h
      · rename_i h4
        rw [if_pos h4]
        exact ⟨by simp only; omega, h4⟩
      · exact absurd h (by simp)
theorem lenX_inv {b : List UInt8} {e p : Nat} {op st : Bool} (h : (lenX b e op st p).2.1 = 0) : p < (lenX b e op st p).2.2 ∧ ((lenX b e op st p).1 = -1 → op = true) := by
  unfold lenX at h ⊢
  split at h
  · exact absurd h (by simp)
  · rename_i h1
    rw [if_neg h1]
    split at h
    · rename_i h2
      rw [if_pos h2]
      exact ⟨by simp only; omega, fun hh => by simp only at hh; omega⟩
    · rename_i h2
      rw [if_neg h2]
      split at h
      · exact absurd h (by simp)
      · rename_i h3
        rw [if_neg h3]
        split at h
        · rename_i h4
          rw [if_pos h4]
          refine ⟨by simp only; omega, fun _ => ?_⟩
          cases op
          · simp [h4] at h3
          · rfl
        · rename_i h4
          rw [if_neg h4]
          split at h
          · exact absurd h (by simp)
          · rename_i h5
            rw [if_neg h5]
            split at h
            · exact absurd h (by simp)
            · rename_i h6
              rw [if_neg h6]
              exact ⟨by simp only; omega, fun hh => by simp only at hh; omega⟩

theorem objX_good (b : List UInt8) (st : Bool) : ∀ (k e d : Nat), Good (objX b st k e d) d
  | 0, e, d => fun p c h => by simp [objX] at h
  | k + 1, e, d => fun p c h => by
    have ih := fun e' => objX_good b st k e' (d + 1)
    rw [objX] at h ⊢
    by_cases ht : (tagX b e p).2.1 ≠ 0
    · rw [if_pos ht] at h; exact absurd h ht
    rw [if_neg ht] at h ⊢
    obtain ⟨t1, t2⟩ := tagX_inv (by simpa using ht)
    unfold objY at h ⊢
    by_cases hl : (lenX b e (tagCons (tagX b e p).1 && !st) st (tagX b e p).2.2).2.1 ≠ 0
    · rw [if_pos hl] at h; exact absurd h hl
    obtain ⟨l1, l2⟩ := lenX_inv (by simpa using hl)
    rw [if_neg hl] at h ⊢
    generalize (tagX b e p).1 = t at *
    generalize lenX b e (tagCons t && !st) st (tagX b e p).2.2 = n at *
    split at h
    · exact absurd h (by simp)
    rename_i g1
    rw [if_neg g1]
    split at h
    · exact absurd h (by simp)
    rename_i g2
    rw [if_neg g2]
    split at h
    · exact absurd h (by simp)
    rename_i g3
    rw [if_neg g3]
    have hcase : ∀ (r : List Node × Int × Nat × Nat), tagCons t = true → GoodL (d + 1) n.2.2 (c + 1) [] r → r.2.1 = 0 → (chkN d (.mk t [] r.1) 0).1 = 0 ∧ r.2.2.2 = c + sizeN (.mk t [] r.1) ∧ wgtN (.mk t [] r.1) + 11 * p ≤ 11 * r.2.2.1 := by
      intro r hc hg hr
      obtain ⟨new, q1, q2, q3, q4⟩ := hg hr
      rw [List.nil_append] at q1
      rw [q1]
      refine ⟨?_, by rw [q3, sizeN]; omega, by rw [wgtN]; simp; omega⟩
      rw [chkN, if_neg (by simp [t2]), if_neg (by simp [hc]), if_neg (by omega)]
      exact chkL_of q2
    split at h
    · rename_i g4
      rw [if_pos g4]
      have hc : tagCons t = true := by
        have := l2 g4
        simp at this; exact this.1
      exact hcase _ hc (kidsX_good (ih _) _ _ _ _) h
    · rename_i g4
      rw [if_neg g4]
      split at h
      · rename_i g5
        rw [if_pos g5]
        exact hcase _ g5 (loopX_good (ih _) _ _ _ _) h
      · rename_i g5
        rw [if_neg g5]
        refine ⟨?_, by simp only [sizeN, sizeL], ?_⟩
        · rw [chkN, if_neg (by simp [t2]), if_neg (by simp at g5; simp [g5]), if_neg (by omega)]
          rfl
        · simp only [wgtN, wgtL, List.length_take]; omega

theorem parseX_good {b : List UInt8} {st : Bool} (h : (parseX b st).2 = 0) : b.length ≤ 4096 ∧ (chkL 1 (parseX b st).1 0).1 = 0 ∧ sizeL (parseX b st).1 ≤ 256 ∧ wgtL (parseX b st).1 ≤ 11 * b.length := by
  unfold parseX at h ⊢
  split at h
  · exact absurd h (by simp)
  · rename_i hb
    rw [if_neg hb]
    have hok := loopX_ok (objX_ok b st 9 b.length 1) (b.length + 1) 0 0 [] (by omega) (by omega)
    obtain ⟨new, h1, h2, h3, h4⟩ := loopX_good (d := 1) (e := b.length) (objX_good b st 9 b.length 1) (b.length + 1) 0 0 [] h
    rw [List.nil_append] at h1
    have := hok.2.2.2 h
    refine ⟨by omega, ?_, ?_, ?_⟩
    · simp only; rw [h1]; exact chkL_of h2
    · simp only; rw [h1]; omega
    · simp only; rw [h1]; omega
end Tdoc
/- Plain: objects with lengths of any form are read back. -/
set_option linter.unusedVariables false
set_option linter.unusedSimpArgs false
namespace Tdoc
open Go Go.Proofs

inductive LenForm (n : Nat) : List UInt8 → Prop where
  | one : n < 128 → LenForm n [UInt8.ofNat n]
  | two : n < 256 → LenForm n [129, UInt8.ofNat n]
  | three : LenForm n [130, UInt8.ofNat (n / 256 % 256), UInt8.ofNat (n % 256)]
  | four : LenForm n [131, 0, UInt8.ofNat (n / 256 % 256), UInt8.ofNat (n % 256)]
  | five : LenForm n [132, 0, 0, UInt8.ofNat (n / 256 % 256), UInt8.ofNat (n % 256)]
inductive EncL : List Node → List UInt8 → Prop where
  | nil : EncL [] []
  | prim {t : Int} {v : List UInt8} {k : List Node} {l : List Node} {f r : List UInt8} : tagCons t = false → LenForm v.length f → EncL l r → EncL (.mk t v k :: l) (tagB t ++ (f ++ (v ++ r)))
  | cons {t : Int} {v : List UInt8} {k : List Node} {l : List Node} {f c r : List UInt8} : tagCons t = true → EncL k c → LenForm c.length f → EncL l r → EncL (.mk t v k :: l) (tagB t ++ (f ++ (c ++ r)))
  | free {t : Int} {v : List UInt8} {k : List Node} {l : List Node} {c r : List UInt8} : tagCons t = true → EncL k c → EncL l r → EncL (.mk t v k :: l) (tagB t ++ (128 :: (c ++ (0 :: 0 :: r))))

/-- The bytes s stand at p, ahead of e. -/
def At (b : List UInt8) (e p : Nat) (s : List UInt8) : Prop := p + s.length ≤ e ∧ ∀ i, i < s.length → byteAt b (p + i) = (s.getD i 0).toNat
theorem At.left {b : List UInt8} {e p : Nat} {s r : List UInt8} (h : At b e p (s ++ r)) : At b e p s := by
  obtain ⟨h1, h2⟩ := h
  rw [List.length_append] at h1 h2
  refine ⟨by omega, fun i hi => ?_⟩
  rw [h2 i (by omega), List.getD_eq_getElem?_getD, List.getD_eq_getElem?_getD, List.getElem?_append_left hi]
theorem At.right {b : List UInt8} {e p : Nat} {s r : List UInt8} (h : At b e p (s ++ r)) : At b e (p + s.length) r := by
  obtain ⟨h1, h2⟩ := h
  rw [List.length_append] at h1 h2
  refine ⟨by omega, fun i hi => ?_⟩
  rw [Nat.add_assoc, h2 _ (by omega), List.getD_eq_getElem?_getD, List.getD_eq_getElem?_getD, List.getElem?_append_right (by omega), Nat.add_sub_cancel_left]
theorem At.head {b : List UInt8} {e p : Nat} {x : UInt8} {r : List UInt8} (h : At b e p (x :: r)) : byteAt b p = x.toNat ∧ p < e ∧ At b e (p + 1) r := by
  obtain ⟨h1, h2⟩ := h
  simp only [List.length_cons] at h1 h2
  refine ⟨by simpa using h2 0 (by omega), by omega, by omega, fun i hi => ?_⟩
  have := h2 (i + 1) (by omega)
  rw [Nat.add_comm i 1, ← Nat.add_assoc] at this
  rw [this, Nat.add_comm 1 i]; rfl
theorem At.mono {b : List UInt8} {e e' p : Nat} {s : List UInt8} (h : At b e p s) (he : p + s.length ≤ e') : At b e' p s := ⟨he, h.2⟩
theorem At.whole (b : List UInt8) : At b b.length 0 b := ⟨by omega, fun i hi => by unfold byteAt; rw [Nat.zero_add]⟩

theorem At.cut {b : List UInt8} {e p : Nat} {s : List UInt8} (h : At b e p s) (he : e ≤ b.length) : (b.drop p).take s.length = s := by
  obtain ⟨h1, h2⟩ := h
  apply List.ext_getElem
  · simp; omega
  · intro i h3 h4
    have := h2 i h4
    unfold byteAt at this
    rw [List.getD_eq_getElem?_getD, List.getElem?_eq_getElem (by omega), List.getD_eq_getElem?_getD, List.getElem?_eq_getElem h4] at this
    simp only [Option.getD_some] at this
    simp only [List.getElem_take, List.getElem_drop]
    exact UInt8.toNat_inj.1 this

theorem toNat_mod (n : Nat) : (UInt8.ofNat n).toNat = n % 256 := by simp

theorem tagX_at {b : List UInt8} {e p : Nat} {t : Int} (ht : tagOk t = true) (h : At b e p (tagB t)) : tagX b e p = (t, 0, p + (tagB t).length) ∧ byteAt b p ≠ 0 := by
  have hr := tagOk_range ht
  unfold tagB at h ⊢
  by_cases h1 : t > 255
  · rw [if_pos h1] at h ⊢
    obtain ⟨a1, a2, a3⟩ := h.head
    obtain ⟨b1, b2, b3⟩ := a3.head
    rw [toNat_mod] at a1 b1
    have hh : tagOk t = true := ht
    unfold tagOk at hh
    rw [if_neg (by omega)] at hh
    simp only [Bool.and_eq_true, decide_eq_true_eq, beq_iff_eq] at hh
    have e1 : byteAt b p = (t / 256).toNat := by rw [a1]; omega
    have e2 : byteAt b (p + 1) = (t % 256).toNat := by rw [b1]; omega
    have e3 : ((byteAt b p * 256 + byteAt b (p + 1) : Nat) : Int) = t := by rw [e1, e2]; omega
    refine ⟨?_, by omega⟩
    unfold tagX
    rw [if_neg (by omega), if_pos (by omega), if_neg (by omega), e3, if_pos ht]
    rfl
  · rw [if_neg h1] at h ⊢
    obtain ⟨a1, a2, a3⟩ := h.head
    rw [toNat_mod] at a1
    have hh : tagOk t = true := ht
    unfold tagOk at hh
    rw [if_pos (by omega)] at hh
    simp only [Bool.and_eq_true, decide_eq_true_eq, Bool.not_eq_true', beq_eq_false_iff_ne] at hh
    have e1 : byteAt b p = t.toNat := by rw [a1]; omega
    have e3 : ((byteAt b p : Nat) : Int) = t := by rw [e1]; omega
    refine ⟨?_, by omega⟩
    unfold tagX
    rw [if_neg (by omega), if_neg (by omega), e3, if_pos ht]
    rfl

theorem lenX_at {b : List UInt8} {e q n : Nat} {f : List UInt8} (op : Bool) (hf : LenForm n f) (hn : n < 65536) (h : At b e q f) : lenX b e op false q = ((n : Int), 0, q + f.length) := by
  unfold lenX
  cases hf with
  | one h1 =>
    obtain ⟨a1, a2, _⟩ := h.head
    rw [toNat_mod] at a1
    rw [if_neg (by omega), if_pos (by omega)]
    simp only [List.length_cons, List.length_nil]
    rw [a1, Nat.mod_eq_of_lt (by omega)]
  | two h1 =>
    obtain ⟨a1, a2, a3⟩ := h.head
    obtain ⟨b1, b2, _⟩ := a3.head
    rw [toNat_mod] at b1
    have a1 : byteAt b q = 129 := a1
    rw [if_neg (by omega), if_neg (by omega), if_neg (by omega), if_neg (by omega), if_neg (by omega), if_neg (by simp), a1]
    simp only [numB, List.length_cons, List.length_nil]
    rw [b1, Nat.mod_eq_of_lt (by omega)]
    simp
  | three =>
    obtain ⟨a1, a2, a3⟩ := h.head
    obtain ⟨b1, b2, b3⟩ := a3.head
    obtain ⟨c1, c2, _⟩ := b3.head
    rw [toNat_mod] at b1 c1
    have a1 : byteAt b q = 130 := a1
    rw [if_neg (by omega), if_neg (by omega), if_neg (by omega), if_neg (by omega), if_neg (by omega), if_neg (by simp), a1]
    simp only [numB, List.length_cons, List.length_nil]
    rw [b1, c1]
    refine Prod.ext ?_ rfl
    simp only
    omega
  | four =>
    obtain ⟨a1, a2, a3⟩ := h.head
    obtain ⟨b1, b2, b3⟩ := a3.head
    obtain ⟨c1, c2, c3⟩ := b3.head
    obtain ⟨d1, d2, _⟩ := c3.head
    rw [toNat_mod] at c1 d1
    have a1 : byteAt b q = 131 := a1
    have b1 : byteAt b (q + 1) = 0 := b1
    rw [if_neg (by omega), if_neg (by omega), if_neg (by omega), if_neg (by omega), if_neg (by omega), if_neg (by simp), a1]
    simp only [numB, List.length_cons, List.length_nil]
    rw [b1, c1, d1]
    refine Prod.ext ?_ rfl
    simp only
    omega
  | five =>
    obtain ⟨a1, a2, a3⟩ := h.head
    obtain ⟨b1, b2, b3⟩ := a3.head
    obtain ⟨c1, c2, c3⟩ := b3.head
    obtain ⟨d1, d2, d3⟩ := c3.head
    obtain ⟨e1, e2, _⟩ := d3.head
    rw [toNat_mod] at d1 e1
    have a1 : byteAt b q = 132 := a1
    have b1 : byteAt b (q + 1) = 0 := b1
    have c1 : byteAt b (q + 1 + 1) = 0 := c1
    rw [if_neg (by omega), if_neg (by omega), if_neg (by omega), if_neg (by omega), if_neg (by omega), if_neg (by simp), a1]
    simp only [numB, List.length_cons, List.length_nil]
    rw [b1, c1, d1, e1]
    refine Prod.ext ?_ rfl
    simp only
    omega
theorem lenX_free {b : List UInt8} {e q : Nat} (h : byteAt b q = 128) (hq : q < e) : lenX b e true false q = (-1, 0, q + 1) := by
  unfold lenX
  rw [if_neg (by omega), if_neg (by omega), if_neg (by simp [h]), if_pos h]

/-- Readings one behind the other. -/
inductive Steps (b : List UInt8) (f : Rd) (e : Nat) : Nat → Nat → List Node → Nat → Nat → Prop where
  | nil (p c : Nat) : Steps b f e p c [] p c
  | cons {p c p1 c1 p2 c2 : Nat} {n : Node} {l : List Node} : p < e → byteAt b p ≠ 0 → f p c = (n, 0, p1, c1) → Steps b f e p1 c1 l p2 c2 → Steps b f e p c (n :: l) p2 c2

theorem Steps.loop {b : List UInt8} {f : Rd} {e p c : Nat} {l : List Node} {p2 c2 : Nat} (h : Steps b f e p c l p2 c2) (h2 : p2 = e) : ∀ (m : Nat) (out : List Node), l.length < m → loopX f e m p c out = (out ++ l, 0, e, c2) := by
  induction h with
  | nil p c =>
    intro m out hm
    obtain ⟨m, rfl⟩ : ∃ k, m = k + 1 := ⟨m - 1, by omega⟩
    rw [loopX, if_neg (by omega), List.append_nil, h2]
  | cons h1 h3 h4 h5 ih =>
    intro m out hm
    obtain ⟨m, rfl⟩ : ∃ k, m = k + 1 := ⟨m - 1, by omega⟩
    rw [loopX, if_pos h1, h4, if_neg (by simp)]
    simp only
    rw [ih h2 m _ (by simp only [List.length_cons] at hm; omega), List.append_assoc]
    rfl
theorem Steps.kids {b : List UInt8} {f : Rd} {e p c : Nat} {l : List Node} {p2 c2 : Nat} (h : Steps b f e p c l p2 c2) (h2 : p2 + 2 ≤ e) (h3 : byteAt b p2 = 0) (h4 : byteAt b (p2 + 1) = 0) : ∀ (m : Nat) (out : List Node), l.length < m → kidsX b f e m p c out = (out ++ l, 0, p2 + 2, c2) := by
  induction h with
  | nil p c =>
    intro m out hm
    obtain ⟨m, rfl⟩ : ∃ k, m = k + 1 := ⟨m - 1, by omega⟩
    rw [kidsX, if_neg (by omega), if_pos ⟨h3, h4⟩, List.append_nil]
  | cons h1 h5 h6 h7 ih =>
    intro m out hm
    obtain ⟨m, rfl⟩ : ∃ k, m = k + 1 := ⟨m - 1, by omega⟩
    rw [kidsX, if_neg (by omega), if_neg (fun hh => h5 hh.1), h6, if_neg (by simp)]
    simp only
    rw [ih h2 h3 h4 m _ (by simp only [List.length_cons] at hm; omega), List.append_assoc]
    rfl
theorem Steps.len {b : List UInt8} {f : Rd} {e p c : Nat} {l : List Node} {p2 c2 : Nat} (hf : RdOk f e) (h : Steps b f e p c l p2 c2) (hp : p ≤ e) (hc : c ≤ 256) : p + l.length ≤ p2 ∧ p2 ≤ e := by
  induction h with
  | nil p c => exact ⟨by simp, hp⟩
  | cons h1 h3 h4 h5 ih =>
    have := hf _ _ hp hc
    rw [h4] at this
    simp only at this
    obtain ⟨i1, i2⟩ := ih this.2.1 (this.2.2.2 trivial).2
    have := (this.2.2.2 trivial).1
    exact ⟨by simp only [List.length_cons]; omega, i2⟩

theorem chkN_inv {d : Nat} {t : Int} {v : List UInt8} {k : List Node} {c : Nat} (h : (chkN d (.mk t v k) c).1 = 0) : tagOk t = true ∧ (tagCons t = false → k = []) ∧ (tagCons t = true → v = []) ∧ d ≤ 8 ∧ (chkL (d + 1) k (c + 1)).1 = 0 := by
  rw [chkN] at h
  split at h
  · exact absurd h (by simp)
  rename_i h1
  split at h
  · exact absurd h (by simp)
  rename_i h2
  split at h
  · exact absurd h (by simp)
  rename_i h3
  refine ⟨by simpa using h1, fun hc => ?_, fun hc => ?_, by omega, h⟩
  · simp [hc] at h2; exact h2
  · simp [hc] at h2; exact h2
theorem chkL_inv {d : Nat} {a : Node} {l : List Node} {c : Nat} (h : (chkL d (a :: l) c).1 = 0) : (chkN d a c).1 = 0 ∧ (chkL d l 0).1 = 0 := by
  rw [chkL] at h
  split at h
  · rename_i h1
    exact ⟨h1, by rw [chkL_any d l 0 _]; exact h⟩
  · rename_i h1; exact absurd h h1

theorem encL_steps (b : List UInt8) {l : List Node} {r : List UInt8} (h : EncL l r) : ∀ (k d e p c : Nat), (chkL d l 0).1 = 0 → d + k = 9 → c + sizeL l ≤ 256 → r.length < 65536 → e ≤ b.length → At b e p r → Steps b (objX b false (k + 1) e d) e p c l (p + r.length) (c + sizeL l) := by
  induction h with
  | nil => intro k d e p c _ _ _ _ _ _; exact .nil p c
  | @prim t v k0 l f r h1 h2 h3 ih =>
    intro k d e p c hch hk hc hr he ha
    obtain ⟨c1, c2⟩ := chkL_inv hch
    obtain ⟨t1, t2, t3, t4, t5⟩ := chkN_inv c1
    obtain rfl := t2 h1
    obtain ⟨g1, g2⟩ := tagX_at t1 ha.left
    have a2 := ha.right
    have a3 := a2.left
    have a4 := a2.right
    have a5 := a4.left
    have a6 := a4.right
    simp only [List.length_append] at hr
    have hsz : sizeL (Node.mk t v [] :: l) = 1 + sizeL l := by simp [sizeL, sizeN]
    rw [hsz] at hc ⊢
    have hl := lenX_at (tagCons t) h2 (by omega) a3
    have hbd := a5.1
    refine .cons (p1 := p + (tagB t).length + f.length + v.length) (c1 := c + 1) ?_ g2 ?_ ?_
    · have := (tagX_inv (b := b) (e := e) (p := p) (by rw [g1])).1
      rw [g1] at this; simp only at this; omega
    · rw [objX, g1]
      simp only [ne_eq, not_true_eq_false, if_false]
      rw [Bool.not_false, Bool.and_true, hl]
      unfold objY
      simp only [ne_eq, not_true_eq_false, if_false]
      rw [if_neg (by omega), if_neg (by omega), if_neg (by omega), if_neg (by omega), if_neg (by simp [h1])]
      rw [Int.toNat_natCast, a5.cut he]
    · have := ih k d e (p + (tagB t).length + f.length + v.length) (c + 1) c2 hk (by omega) (by omega) he a6
      simp only [List.length_append]
      rw [show p + ((tagB t).length + (f.length + (v.length + r.length))) = p + (tagB t).length + f.length + v.length + r.length by omega, show c + (1 + sizeL l) = c + 1 + sizeL l by omega]
      exact this
  | @cons t v k0 l f c0 r h1 h2 h3 h4 ihk ih =>
    intro k d e p c hch hk hc hr he ha
    obtain ⟨c1, c2⟩ := chkL_inv hch
    obtain ⟨t1, t2, t3, t4, t5⟩ := chkN_inv c1
    obtain rfl := t3 h1
    obtain ⟨g1, g2⟩ := tagX_at t1 ha.left
    have a2 := ha.right
    have a3 := a2.left
    have a4 := a2.right
    have a5 := a4.left
    have a6 := a4.right
    simp only [List.length_append] at hr
    have hsz : sizeL (Node.mk t [] k0 :: l) = 1 + sizeL k0 + sizeL l := by simp [sizeL, sizeN]
    rw [hsz] at hc ⊢
    have hl := lenX_at (tagCons t) h3 (by omega) a3
    have hbd := a5.1
    obtain ⟨k, rfl⟩ : ∃ k', k = k' + 1 := ⟨k - 1, by omega⟩
    refine .cons (p1 := p + (tagB t).length + f.length + c0.length) (c1 := c + 1 + sizeL k0) ?_ g2 ?_ ?_
    · have := (tagX_inv (b := b) (e := e) (p := p) (by rw [g1])).1
      rw [g1] at this; simp only at this; omega
    · rw [objX, g1]
      simp only [ne_eq, not_true_eq_false, if_false]
      rw [Bool.not_false, Bool.and_true, hl]
      unfold objY
      simp only [ne_eq, not_true_eq_false, if_false]
      rw [if_neg (by omega), if_neg (by omega), if_neg (by omega), if_neg (by omega), if_pos h1]
      rw [Int.toNat_natCast]
      have hst := ihk k (d + 1) (p + (tagB t).length + f.length + c0.length) (p + (tagB t).length + f.length) (c + 1) (by rw [chkL_any _ _ 0 1]; exact t5) (by omega) (by omega) (by omega) (by omega) (a5.mono (by omega))
      have hln := hst.len (objX_ok b false (k + 1) _ (d + 1)) (by omega) (by omega)
      rw [hst.loop rfl _ _ (by omega), List.nil_append]
    · have := ih (k + 1) d e (p + (tagB t).length + f.length + c0.length) (c + 1 + sizeL k0) c2 hk (by omega) (by omega) he a6
      simp only [List.length_append]
      rw [show p + ((tagB t).length + (f.length + (c0.length + r.length))) = p + (tagB t).length + f.length + c0.length + r.length by omega, show c + (1 + sizeL k0 + sizeL l) = c + 1 + sizeL k0 + sizeL l by omega]
      exact this
  | @free t v k0 l c0 r h1 h2 h4 ihk ih =>
    intro k d e p c hch hk hc hr he ha
    obtain ⟨c1, c2⟩ := chkL_inv hch
    obtain ⟨t1, t2, t3, t4, t5⟩ := chkN_inv c1
    obtain rfl := t3 h1
    obtain ⟨g1, g2⟩ := tagX_at t1 ha.left
    have a2 := ha.right
    obtain ⟨b1, b2, b3⟩ := a2.head
    have b1 : byteAt b (p + (tagB t).length) = 128 := b1
    have a4 := b3.left
    obtain ⟨z1, z2, z3⟩ := b3.right.head
    obtain ⟨y1, y2, y3⟩ := z3.head
    have z1 : byteAt b (p + (tagB t).length + 1 + c0.length) = 0 := z1
    have y1 : byteAt b (p + (tagB t).length + 1 + c0.length + 1) = 0 := y1
    simp only [List.length_append, List.length_cons] at hr
    have hsz : sizeL (Node.mk t [] k0 :: l) = 1 + sizeL k0 + sizeL l := by simp [sizeL, sizeN]
    rw [hsz] at hc ⊢
    have hl := lenX_free b1 b2
    obtain ⟨k, rfl⟩ : ∃ k', k = k' + 1 := ⟨k - 1, by omega⟩
    refine .cons (p1 := p + (tagB t).length + 1 + c0.length + 2) (c1 := c + 1 + sizeL k0) ?_ g2 ?_ ?_
    · have := (tagX_inv (b := b) (e := e) (p := p) (by rw [g1])).1
      rw [g1] at this; simp only at this; omega
    · rw [objX, g1]
      simp only [ne_eq, not_true_eq_false, if_false]
      rw [Bool.not_false, Bool.and_true, h1, hl]
      unfold objY
      simp only [ne_eq, not_true_eq_false, if_false]
      rw [if_neg (by omega), if_neg (by omega), if_neg (by omega), if_pos trivial]
      have hst := ihk k (d + 1) e (p + (tagB t).length + 1) (c + 1) (by rw [chkL_any _ _ 0 1]; exact t5) (by omega) (by omega) (by omega) he a4
      have hln := hst.len (objX_ok b false (k + 1) _ (d + 1)) (by omega) (by omega)
      rw [hst.kids (by omega) z1 y1 _ _ (by omega), List.nil_append]
    · have := ih (k + 1) d e (p + (tagB t).length + 1 + c0.length + 2) (c + 1 + sizeL k0) c2 hk (by omega) (by omega) he y3
      simp only [List.length_append, List.length_cons]
      rw [show p + ((tagB t).length + (c0.length + (r.length + 1 + 1) + 1)) = p + (tagB t).length + 1 + c0.length + 2 + r.length by omega, show c + (1 + sizeL k0 + sizeL l) = c + 1 + sizeL k0 + sizeL l by omega]
      exact this

theorem encL_parse {l : List Node} {r : List UInt8} (h : EncL l r) (hc : (chkL 1 l 0).1 = 0) (hs : sizeL l ≤ 256) (hr : r.length ≤ 4096) : parseX r false = (l, 0) := by
  have hst := encL_steps r h 8 1 r.length 0 0 hc rfl (by omega) (by omega) (Nat.le_refl _) (At.whole r)
  have hln := hst.len (objX_ok r false 9 _ 1) (by omega) (by omega)
  unfold parseX
  rw [if_neg (by omega), hst.loop (by omega) _ _ (by omega), List.nil_append]

/-! one object only -/
theorem lenB_form {n : Nat} (h : n ≤ 4097) : LenForm n (lenB n) := by
  rw [← lenR_eq h]
  unfold lenR
  split
  · exact .one (by omega)
  · split
    · exact .two (by omega)
    · exact .three

theorem parse_one {t : Int} {k : List Node} (ht : tagOk t = true) (hc : tagCons t = true) (hl : (wrL [.mk t [] k]).length ≤ 4096) (hp : (parseX (wrL [.mk t [] k]) false).2 = 0) : ∃ k', (parseX (wrL [.mk t [] k]) false).1 = [.mk t [] k'] := by
  have hw : wrL [.mk t [] k] = tagB t ++ (lenB (wrL k).length ++ wrL k) := by simp [wrL, wrN, hc]
  rw [hw] at hl hp ⊢
  generalize hb : tagB t ++ (lenB (wrL k).length ++ wrL k) = b at *
  have hlen : b.length = (tagB t).length + ((lenB (wrL k).length).length + (wrL k).length) := by rw [← hb]; simp
  have ha : At b b.length 0 (tagB t ++ (lenB (wrL k).length ++ wrL k)) := by rw [hb]; exact At.whole b
  obtain ⟨g1, g2⟩ := tagX_at ht ha.left
  have a2 := ha.right
  have hf := lenX_at (tagCons t) (lenB_form (n := (wrL k).length) (by omega)) (by omega) a2.left
  have hpos := (tagX_inv (b := b) (e := b.length) (p := 0) (by rw [g1])).1
  rw [g1] at hpos
  simp only at hpos
  unfold parseX at hp ⊢
  rw [if_neg (by omega)] at hp ⊢
  have hob : objX b false 9 b.length 1 0 0 = objY b (fun e' => objX b false 8 e' 2) b.length 1 t ((((wrL k).length : Nat) : Int), 0, 0 + (tagB t).length + (lenB (wrL k).length).length) 0 := by
    rw [objX, g1]
    simp only [ne_eq, not_true_eq_false, if_false]
    rw [Bool.not_false, Bool.and_true, hf]
  have hoy : objX b false 9 b.length 1 0 0 = (.mk t [] (loopX (objX b false 8 b.length 2) b.length (b.length + 1) (0 + (tagB t).length + (lenB (wrL k).length).length) 1 []).1, (loopX (objX b false 8 b.length 2) b.length (b.length + 1) (0 + (tagB t).length + (lenB (wrL k).length).length) 1 []).2) := by
    rw [hob]
    unfold objY
    simp only [ne_eq, not_true_eq_false, if_false]
    rw [if_neg (by omega), if_neg (by omega), if_neg (by omega), if_neg (by omega), if_pos hc, Int.toNat_natCast]
    rw [show 0 + (tagB t).length + (lenB (wrL k).length).length + (wrL k).length = b.length by omega]
  have hend := (loopX_ok (objX_ok b false 8 b.length 2) (b.length + 1) (0 + (tagB t).length + (lenB (wrL k).length).length) 1 [] (by omega) (by omega))
  generalize hlp : loopX (objX b false 8 b.length 2) b.length (b.length + 1) (0 + (tagB t).length + (lenB (wrL k).length).length) 1 [] = lp at *
  rw [loopX, if_pos (by omega), hoy] at hp ⊢
  simp only at hp ⊢
  by_cases h0 : lp.2.1 = 0
  · rw [if_neg (by simp [h0])] at hp ⊢
    have hfin : lp.2.2.1 = b.length := by
      rw [← hlp]
      exact loop_end (objX_ok b false 8 b.length 2) _ _ _ _ (by omega) (by omega) (by omega) (by rw [hlp]; exact h0)
    rw [hfin]
    cases hbl : b.length with
    | zero => omega
    | succ n =>
      rw [loopX, if_neg (by omega)]
      exact ⟨_, rfl⟩
  · rw [if_pos h0] at hp
    exact absurd hp h0
end Tdoc
/- Plain: a file written with other forms of lengths has the same group and objects. -/
set_option linter.unusedVariables false
set_option linter.unusedSimpArgs false
namespace Tdoc
open Go Go.Proofs

/-- A file of a group of 1 to 16, or nothing. -/
def FileM (b : List UInt8) : Prop := b = [] ∨ ∃ (n : Int) (k : List Node), 1 ≤ n ∧ n ≤ 16 ∧ b = (wrapG n k).1

theorem tag_facts : ∀ x, x ∈ tagTab.take 16 → tagOk x = true ∧ tagCons x = true ∧ (groupR x).2 = 0 := by decide
theorem tagR_at {n : Int} (h1 : 1 ≤ n) (h2 : n ≤ 16) : (tagR n).2 = 0 ∧ (tagR n).1 ∈ tagTab.take 16 := by
  unfold tagR
  rw [if_neg (by omega)]
  refine ⟨rfl, ?_⟩
  have hl : (n - 1).toNat < (tagTab.take 16).length := by show (n - 1).toNat < 16; omega
  have : tagTab[(n - 1).toNat]? = some (tagTab.take 16)[(n - 1).toNat] := by
    rw [List.getElem_take, List.getElem?_eq_getElem]
  rw [this]
  exact List.getElem_mem _
theorem encodeP_nil {l : List Node} (h : (encodeP l).1 ≠ []) : (encodeP l).1 = wrL l ∧ (wrL l).length ≤ 4096 := by
  unfold encodeP at h ⊢
  split at h
  · exact absurd rfl h
  split at h
  · exact absurd rfl h
  split at h
  · exact absurd rfl h
  rename_i h1 h2 h3
  rw [if_neg h1, if_neg h2, if_neg h3]
  exact ⟨rfl, by omega⟩
theorem FileM.short {b : List UInt8} (h : FileM b) : b.length ≤ 4096 := by
  rcases h with rfl | ⟨n, k, h1, h2, rfl⟩
  · simp
  · unfold wrapG
    rw [if_neg (by rw [(tagR_at h1 h2).1]; simp)]
    unfold encodeP
    split
    · simp
    split
    · simp
    split
    · simp
    · rename_i h3
      show (wrL _).length ≤ 4096
      omega

theorem forms_plain {b : List UInt8} (hf : FileM b) (hb : b ≠ []) (hp : (parseX b true).2 = 0) : (openX b).2.2 = 0 ∧ ∀ c, EncL (parseX b true).1 c → c.length ≤ 4096 → openX c = openX b := by
  rcases hf with h | ⟨n, k, h1, h2, h3⟩
  · exact absurd h hb
  obtain ⟨t1, t2⟩ := tagR_at h1 h2
  obtain ⟨t3, t4, t5⟩ := tag_facts _ t2
  have hw : wrapG n k = encodeP [.mk (tagR n).1 [] k] := by unfold wrapG; rw [if_neg (by rw [t1]; simp)]
  rw [hw] at h3
  obtain ⟨w1, w2⟩ := encodeP_nil (by rw [← h3]; exact hb)
  rw [w1] at h3
  have hg := parseX_good hp
  have hs := parseX_sub hp
  have hl : (parseX b false).2 = 0 := by rw [hs]; exact hp
  rw [h3] at hl
  obtain ⟨k', hk⟩ := parse_one t3 t4 w2 hl
  rw [← h3] at hk hl
  have ho : openX b = ((groupR (tagR n).1).1, k', 0) := by
    unfold openX
    rw [if_neg (by simp [hl]), hk]
    simp only
    rw [if_neg (by simp [t5])]
  refine ⟨by rw [ho], fun c hc hcl => ?_⟩
  have hpc := encL_parse hc hg.2.1 hg.2.2.1 hcl
  rw [ho]
  unfold openX
  rw [hpc, ← hs, hk]
  simp only
  rw [if_neg (by simp), if_neg (by simp [t5])]
end Tdoc
/- The reference's comparison of objects, of equal ones. -/
set_option linter.unusedVariables false
set_option linter.unusedSimpArgs false
namespace Tdoc
open Go Go.Proofs

set_option maxHeartbeats 8000000 in
set_option maxRecDepth 100000 in
theorem SameNodes_spec : ∀ (N : Nat) (l : List Node), wgtL l ≤ N → wgtL l ≤ 1000000 →
    Spec Tryz.prog 16 [.d (.sl 3 (encNs l)), .d (.sl 3 (encNs l))] [] (fun r h' => r = .d (.bool true) ∧ h' = []) := by
  intro N
  induction N using Nat.strongRecOn with
  | _ N ih =>
  intro l hN hw
  have hll := encNs_length l
  have hlw : l.length ≤ wgtL l := by
    clear hN hw hll ih
    induction l with
    | nil => simp
    | cons a l ih => obtain ⟨t, v, k⟩ := a; rw [wgtL, wgtN, List.length_cons]; omega
  refine Spec_of_body hT Tryz.func16 rfl rfl rfl rfl ?_; intro E hE
  refine ww ?_
  refine AW_condL rfl (fun c1 => ?_) (fun c1 => ?_)
  · exact absurd c1 (by simp)
  refine ww ?_
  refine AW_loopL (ι := Nat) (fun i => [(0, .d (.sl 3 (encNs l))), (1, .d (.sl 3 (encNs l))), (5, .d (.int .i64 (i : Int)))]) (fun _ => []) (fun i => i ≤ l.length) (fun i => l.length - i) 0 (by omega) ⟨.refl _, .refl _, .refl _, trivial⟩ (HLe.refl _) ?_
  intro i hi
  have hwr : IntKind.i64.wrap ((i : Int) + 1) = ((i + 1 : Nat) : Int) := by rw [wrap_id (by omega)]; simp
  refine ww ?_
  refine AW_condL rfl (fun c2 => ?_) (fun c2 => ?_)
  · have c2' : i < l.length := by rw [hll] at c2; simpa using c2
    have hel : (encNs l)[((i : Int)).toNat]? = some (encN l[i]) := by simp [encNs_eq, c2']
    have hwt : wgtN l[i] ≤ wgtL l := by
      have h := wgtL_append (l.take i) (l.drop i)
      rw [List.take_append_drop, List.drop_eq_getElem_cons c2', wgtL] at h
      omega
    generalize l[i] = x at hel hwt
    obtain ⟨t, v, k⟩ := x
    rw [wgtN] at hwt
    have hrec := ih (wgtL k) (by omega) k (Nat.le_refl _) (by omega)
    rw [encN] at hel
    refine ww ?_
    refine wwi hel ?_
    refine ww ?_
    refine wwi hel ?_
    refine ww ?_
    refine wwgi hel ?_
    refine ww ?_
    refine AWd_gstep hT rfl rfl rfl rfl rfl (fun hg => ⟨(sg (C := True) hg).1, byteCells_encB v⟩) ?_
    refine ww ?_
    refine wwgi hel ?_
    refine ww ?_
    refine AWd_gstep hT rfl rfl rfl rfl rfl (fun hg => ⟨(sg (C := True) hg).1, byteCells_encB v⟩) ?_
    refine ww ?_
    refine wwgi hel ?_
    refine ww ?_
    refine wwgi hel ?_
    refine ww ?_
    refine wwgc hrec ?_
    refine ww ?_
    refine AW_condL rfl (fun c3 => ?_) (fun c3 => ?_)
    · exact absurd c3 (by simp)
    · refine ww ?_
      exact ⟨i + 1, by omega, by omega, ⟨.refl _, .refl _, .int hwr, trivial⟩, HLe.refl _⟩
  · refine ww ?_
    exact wwr
end Tdoc
