/- Package policy: Name, write, and strings.Join as contracts of this layer. -/
import Derived.Test.YtoaogfehdalmdaaK5
import Derived.Test.YtoaogfehdalmdaaK2
import Derived.Test.YtoaogfehdalmdaaKX
import Derived.Test.YtoaogfehdalmdaaK3
set_option linter.unusedVariables false
set_option linter.unusedSimpArgs false
namespace Tdoc
open Go Go.Proofs Go.RowKit Go.Sort

theorem funcOk {f : FuncId} {fn : Func} (h : Try.prog.funcs[f]? = some fn) (h1 : (fn.name == "runtime.NumGoroutine") = false) (h2 : fn.body.isNone = false) : ∃ fn, Try.prog.funcs[f]? = some fn ∧ (fn.name == "runtime.NumGoroutine") = false ∧ fn.body.isNone = false := ⟨fn, h, h1, h2⟩
theorem args2 {G : Gh} {x y : AV} {vals : Array Value} (h1 : vals.size = [x, y].length) (h2 : ∀ (j : Nat) (z : AV) (v : Value), [x, y][j]? = some z → vals[j]? = some v → RepA G z v) : ∃ u v, vals = #[u, v] ∧ RepA G x u ∧ RepA G y v := by
  obtain ⟨l⟩ := vals
  match l, h1 with
  | [u, v], _ => exact ⟨u, v, rfl, h2 0 _ _ rfl rfl, h2 1 _ _ rfl rfl⟩

theorem Join_spec (l : List (List UInt8)) (sep : List UInt8) (hl : l.length ≤ 140737488355328) (hj : (Lib.join l sep).length ≤ 140737488355328) :
    Spec Try.prog 33 [.d (.sl 1 (strsAV l)), .d (.str sep)] [] (fun r h' => r = .d (.str (Lib.join l sep)) ∧ h' = []) :=
  Spec_lib (funcOk Try.func33 rfl rfl) rfl fun G w vals h1 h2 ht hi => by
    obtain ⟨u, v, rfl, hu, hv⟩ := args2 h1 h2
    rw [hv.str_inv]
    rcases rep_strs hi hu with ⟨bk, o, c, rfl, hc, hcell⟩ | ⟨rfl, rfl⟩
    · cases l with
      | nil =>
        refine (Try.strings_Join_none (some ⟨bk, o, none⟩) c ⟨sep.toArray⟩ w).mono ?_
        rintro e w' ⟨rfl, rfl⟩
        exact ⟨_, rfl, .d (.str []), Below.refl _ _⟩
      | cons a l =>
        have hmap : ((a :: l).map fun s => (⟨s.toArray⟩ : ByteArray)).map (·.data.toList) = a :: l := by
          rw [List.map_map]
          exact (List.map_congr_left fun s _ => rfl).trans (List.map_id _)
        have h0 := hcell 0 a rfl
        have hbk := cell_block_lt h0
        have hcon := Try.strings_Join bk o c ((a :: l).map fun s => (⟨s.toArray⟩ : ByteArray)) ⟨sep.toArray⟩ w (fun j x hx => by
          simp only [List.getElem?_map, Option.map_eq_some_iff] at hx
          obtain ⟨s, hs, rfl⟩ := hx
          exact hcell j s hs) hbk (by rw [List.length_map]; exact hl) (by rw [List.length_map]; exact hc) (by rw [hmap]; exact hj)
        rw [hmap, List.length_map] at hcon
        refine hcon.mono ?_
        rintro e w' ⟨rfl, hb⟩
        exact ⟨_, rfl, .d (.str _), hb⟩
    · refine (Try.strings_Join_none none 0 ⟨sep.toArray⟩ w).mono ?_
      rintro e w' ⟨rfl, rfl⟩
      exact ⟨_, rfl, .d (.str []), Below.refl _ _⟩

theorem join_between (sep : List UInt8) : ∀ (l : List (List UInt8)), Lib.join l sep = between sep l
  | [] => rfl
  | [a] => by rw [Lib.join_one]; rfl
  | a :: x :: l => by
    have ih := join_between sep (x :: l)
    rw [Lib.join_cons, between, ← ih, Lib.join_cons]
    · simp [Lib.joinTail]
    · simp

theorem strsAV_length (l : List (List UInt8)) : (strsAV l).length = l.length := by simp [strsAV]

set_option maxHeartbeats 8000000 in
set_option maxRecDepth 100000 in
theorem Name_spec (l : List (List UInt8)) (n : Int) (hn : -9223372036854775808 ≤ n ∧ n ≤ 9223372036854775807) (hl : l.length ≤ 1000000) : Spec Try.prog 17 [.d (.sl 1 (strsAV l)), .d (.int .i64 n)] [] (fun r h' => r = .d (.str (nameOf l n)) ∧ h' = []) := by
  have hlen := strsAV_length l
  unfold nameOf
  refine Spec_of_body hT Try.func17 rfl rfl rfl rfl ?_
  intro E hE
  repeat (first | refine wk hT rfl rfl ?_ | refine wd hT rfl rfl rfl ?_ | refine wz hT rfl ?_ | refine AWd_nil ?_ | refine AWk_nil ?_ | refine wh hT rfl rfl rfl rfl ?_ | refine wg hT rfl rfl rfl rfl rfl ?_ | refine AW_seq ?_ | refine AW_region ?_ | refine wx mixed ?_ | refine AW_block ?_ | refine AW_skip ?_ | refine AW_exit ?_ | refine AW_ret ?_)
  refine AW_condL rfl (fun h1 => ?_) (fun h1 => ?_)
  · have h1' : n < 1 ∨ n > l.length := by rw [hlen] at h1; simpa using h1
    rw [if_pos h1']
    repeat (first | refine wk hT rfl rfl ?_ | refine wd hT rfl rfl rfl ?_ | refine wz hT rfl ?_ | refine AWd_nil ?_ | refine AWk_nil ?_ | refine wh hT rfl rfl rfl rfl ?_ | refine wg hT rfl rfl rfl rfl rfl ?_ | refine AW_seq ?_ | refine AW_region ?_ | refine wx mixed ?_ | refine AW_block ?_ | refine AW_skip ?_ | refine AW_exit ?_ | refine AW_ret ?_)
    first | exact rx ⟨rfl, rfl⟩ | exact rxN ⟨rfl, rfl⟩ | (refine rq ⟨rfl, rfl⟩ rfl ?_; repeat (first | exact trivial | exact AV.le.refl _ | exact AV.le.dat | exact AV.le.nils | exact AV.le.nilsf | exact AV.le.any _ | exact ObLe.refl _ | exact ⟨rfl, rfl⟩ | refine AV.le.tup ?_ | refine AV.le.agg ?_ | exact li | exact lb | exact ls | exact lk | exact ld | exact lz | refine ⟨?_, ?_⟩)) | (refine rqN ⟨rfl, rfl⟩ rfl ?_; repeat (first | exact trivial | exact AV.le.refl _ | exact AV.le.dat | exact AV.le.nils | exact AV.le.nilsf | exact AV.le.any _ | exact ObLe.refl _ | exact ⟨rfl, rfl⟩ | refine AV.le.tup ?_ | refine AV.le.agg ?_ | exact li | exact lb | exact ls | exact lk | exact ld | exact lz | refine ⟨?_, ?_⟩))
  · have h1' : ¬ (n < 1 ∨ n > l.length) := by rw [hlen] at h1; simpa using h1
    rw [if_neg h1']
    have hw : IntKind.i64.wrap (n - 1) = n - 1 := wrap_id (by omega)
    have hlt : (n - 1).toNat < l.length := by omega
    have hel : (strsAV l)[(IntKind.i64.wrap (n - 1)).toNat]? = some [.str l[(n - 1).toNat]] := by rw [hw]; simp [strsAV, hlt]
    rw [List.getElem?_eq_getElem hlt, Option.getD_some]
    generalize l[(n - 1).toNat] = s at hel
    repeat (first | refine wk hT rfl rfl ?_ | refine wd hT rfl rfl rfl ?_ | refine wz hT rfl ?_ | refine AWd_nil ?_ | refine AWk_nil ?_ | refine wh hT rfl rfl rfl rfl ?_ | refine wg hT rfl rfl rfl rfl rfl ?_ | refine AW_seq ?_ | refine AW_region ?_ | refine wx mixed ?_ | refine AW_block ?_ | refine AW_skip ?_ | refine AW_exit ?_ | refine AW_ret ?_)
    refine AWk_op (OpS_of_pure (indexAddr_ok hT rfl rfl rfl rfl (by rw [hw]; omega) hel)) rfl ?_
    repeat (first | refine wk hT rfl rfl ?_ | refine wd hT rfl rfl rfl ?_ | refine wz hT rfl ?_ | refine AWd_nil ?_ | refine AWk_nil ?_ | refine wh hT rfl rfl rfl rfl ?_ | refine wg hT rfl rfl rfl rfl rfl ?_ | refine AW_seq ?_ | refine AW_region ?_ | refine wx mixed ?_ | refine AW_block ?_ | refine AW_skip ?_ | refine AW_exit ?_ | refine AW_ret ?_)
    first | exact rx ⟨rfl, rfl⟩ | exact rxN ⟨rfl, rfl⟩ | (refine rq ⟨rfl, rfl⟩ rfl ?_; repeat (first | exact trivial | exact AV.le.refl _ | exact AV.le.dat | exact AV.le.nils | exact AV.le.nilsf | exact AV.le.any _ | exact ObLe.refl _ | exact ⟨rfl, rfl⟩ | refine AV.le.tup ?_ | refine AV.le.agg ?_ | exact li | exact lb | exact ls | exact lk | exact ld | exact lz | refine ⟨?_, ?_⟩)) | (refine rqN ⟨rfl, rfl⟩ rfl ?_; repeat (first | exact trivial | exact AV.le.refl _ | exact AV.le.dat | exact AV.le.nils | exact AV.le.nilsf | exact AV.le.any _ | exact ObLe.refl _ | exact ⟨rfl, rfl⟩ | refine AV.le.tup ?_ | refine AV.le.agg ?_ | exact li | exact lb | exact ls | exact lk | exact ld | exact lz | refine ⟨?_, ?_⟩))

set_option maxHeartbeats 8000000 in
set_option maxRecDepth 100000 in
theorem inside_spec (x : Cond) (s : List UInt8) (hs : s.length ≤ 2000000) (hw : Spec Try.prog 19 [cAV x] [] (fun r h' => r = .d (.str s) ∧ h' = [])) :
    Spec Try.prog 30 [cAV x] [] (fun r h' => r = .d (.str (wrapS x s)) ∧ h' = []) := by
  obtain ⟨k, c, v, kids⟩ := x
  unfold wrapS kindOf
  refine Spec_of_body hT Try.func30 rfl rfl rfl rfl ?_
  intro E hE
  repeat (first | refine wk hT rfl rfl ?_ | refine wd hT rfl rfl rfl ?_ | refine wz hT rfl ?_ | refine AWd_nil ?_ | refine AWk_nil ?_ | refine wh hT rfl rfl rfl rfl ?_ | refine wg hT rfl rfl rfl rfl rfl ?_ | refine AW_seq ?_ | refine AW_region ?_ | refine wx mixed ?_ | refine AW_block ?_ | refine AW_skip ?_ | refine AW_exit ?_ | refine AW_ret ?_)
  refine AW_condL rfl (fun h1 => ?_) (fun h1 => ?_)
  · have h1' : k = 3 ∨ k = 4 := by simpa using h1
    rw [if_pos h1']
    repeat (first | refine wk hT rfl rfl ?_ | refine wd hT rfl rfl rfl ?_ | refine wz hT rfl ?_ | refine AWd_nil ?_ | refine AWk_nil ?_ | refine wh hT rfl rfl rfl rfl ?_ | refine wg hT rfl rfl rfl rfl rfl ?_ | refine AW_seq ?_ | refine AW_region ?_ | refine wx mixed ?_ | refine AW_block ?_ | refine AW_skip ?_ | refine AW_exit ?_ | refine AW_ret ?_)
    first | refine AWk_op (callS0 rfl rfl (hw) rfl rfl rfl) rfl ?_ | refine AWd_op (callS0 rfl rfl (hw) rfl rfl rfl) rfl rfl ?_ | refine AWk_op (callS0L rfl rfl (hw) rfl (by repeat (first | exact trivial | exact AV.le.refl _ | exact AV.le.dat | exact AV.le.nils | exact AV.le.nilsf | exact AV.le.any _ | exact ObLe.refl _ | exact ⟨rfl, rfl⟩ | refine AV.le.tup ?_ | refine AV.le.agg ?_ | exact li | exact lb | exact ls | exact lk | exact ld | exact lz | refine ⟨?_, ?_⟩)) rfl rfl) rfl ?_ | refine AWd_op (callS0L rfl rfl (hw) rfl (by repeat (first | exact trivial | exact AV.le.refl _ | exact AV.le.dat | exact AV.le.nils | exact AV.le.nilsf | exact AV.le.any _ | exact ObLe.refl _ | exact ⟨rfl, rfl⟩ | refine AV.le.tup ?_ | refine AV.le.agg ?_ | exact li | exact lb | exact ls | exact lk | exact ld | exact lz | refine ⟨?_, ?_⟩)) rfl rfl) rfl rfl ?_
    repeat (first | refine wk hT rfl rfl ?_ | refine wd hT rfl rfl rfl ?_ | refine wz hT rfl ?_ | refine AWd_nil ?_ | refine AWk_nil ?_ | refine wh hT rfl rfl rfl rfl ?_ | refine wg hT rfl rfl rfl rfl rfl ?_ | refine AW_seq ?_ | refine AW_region ?_ | refine wx mixed ?_ | refine AW_block ?_ | refine AW_skip ?_ | refine AW_exit ?_ | refine AW_ret ?_)
    first | exact rx ⟨rfl, rfl⟩ | exact rxN ⟨rfl, rfl⟩ | (refine rq ⟨rfl, rfl⟩ rfl ?_; repeat (first | exact trivial | exact AV.le.refl _ | exact AV.le.dat | exact AV.le.nils | exact AV.le.nilsf | exact AV.le.any _ | exact ObLe.refl _ | exact ⟨rfl, rfl⟩ | refine AV.le.tup ?_ | refine AV.le.agg ?_ | exact li | exact lb | exact ls | exact lk | exact ld | exact lz | refine ⟨?_, ?_⟩)) | (refine rqN ⟨rfl, rfl⟩ rfl ?_; repeat (first | exact trivial | exact AV.le.refl _ | exact AV.le.dat | exact AV.le.nils | exact AV.le.nilsf | exact AV.le.any _ | exact ObLe.refl _ | exact ⟨rfl, rfl⟩ | refine AV.le.tup ?_ | refine AV.le.agg ?_ | exact li | exact lb | exact ls | exact lk | exact ld | exact lz | refine ⟨?_, ?_⟩))
  · have h1' : ¬ (k = 3 ∨ k = 4) := by simpa using h1
    rw [if_neg h1']
    repeat (first | refine wk hT rfl rfl ?_ | refine wd hT rfl rfl rfl ?_ | refine wz hT rfl ?_ | refine AWd_nil ?_ | refine AWk_nil ?_ | refine wh hT rfl rfl rfl rfl ?_ | refine wg hT rfl rfl rfl rfl rfl ?_ | refine AW_seq ?_ | refine AW_region ?_ | refine wx mixed ?_ | refine AW_block ?_ | refine AW_skip ?_ | refine AW_exit ?_ | refine AW_ret ?_)
    first | refine AWk_op (callS0 rfl rfl (hw) rfl rfl rfl) rfl ?_ | refine AWd_op (callS0 rfl rfl (hw) rfl rfl rfl) rfl rfl ?_ | refine AWk_op (callS0L rfl rfl (hw) rfl (by repeat (first | exact trivial | exact AV.le.refl _ | exact AV.le.dat | exact AV.le.nils | exact AV.le.nilsf | exact AV.le.any _ | exact ObLe.refl _ | exact ⟨rfl, rfl⟩ | refine AV.le.tup ?_ | refine AV.le.agg ?_ | exact li | exact lb | exact ls | exact lk | exact ld | exact lz | refine ⟨?_, ?_⟩)) rfl rfl) rfl ?_ | refine AWd_op (callS0L rfl rfl (hw) rfl (by repeat (first | exact trivial | exact AV.le.refl _ | exact AV.le.dat | exact AV.le.nils | exact AV.le.nilsf | exact AV.le.any _ | exact ObLe.refl _ | exact ⟨rfl, rfl⟩ | refine AV.le.tup ?_ | refine AV.le.agg ?_ | exact li | exact lb | exact ls | exact lk | exact ld | exact lz | refine ⟨?_, ?_⟩)) rfl rfl) rfl rfl ?_
    repeat (first | refine wk hT rfl rfl ?_ | refine wd hT rfl rfl rfl ?_ | refine wz hT rfl ?_ | refine AWd_nil ?_ | refine AWk_nil ?_ | refine wh hT rfl rfl rfl rfl ?_ | refine wg hT rfl rfl rfl rfl rfl ?_ | refine AW_seq ?_ | refine AW_region ?_ | refine wx mixed ?_ | refine AW_block ?_ | refine AW_skip ?_ | refine AW_exit ?_ | refine AW_ret ?_)
    first | exact rx ⟨rfl, rfl⟩ | exact rxN ⟨rfl, rfl⟩ | (refine rq ⟨rfl, rfl⟩ rfl ?_; repeat (first | exact trivial | exact AV.le.refl _ | exact AV.le.dat | exact AV.le.nils | exact AV.le.nilsf | exact AV.le.any _ | exact ObLe.refl _ | exact ⟨rfl, rfl⟩ | refine AV.le.tup ?_ | refine AV.le.agg ?_ | exact li | exact lb | exact ls | exact lk | exact ld | exact lz | refine ⟨?_, ?_⟩)) | (refine rqN ⟨rfl, rfl⟩ rfl ?_; repeat (first | exact trivial | exact AV.le.refl _ | exact AV.le.dat | exact AV.le.nils | exact AV.le.nilsf | exact AV.le.any _ | exact ObLe.refl _ | exact ⟨rfl, rfl⟩ | refine AV.le.tup ?_ | refine AV.le.agg ?_ | exact li | exact lb | exact ls | exact lk | exact ld | exact lz | refine ⟨?_, ?_⟩))

theorem strsAV_append (a b : List (List UInt8)) : strsAV (a ++ b) = strsAV a ++ strsAV b := by simp [strsAV]
theorem between_mem (sep : List UInt8) : ∀ (l : List (List UInt8)) (x : List UInt8), x ∈ l → x.length ≤ (between sep l).length
  | [], x, h => by cases h
  | [a], x, h => by simp at h; subst h; simp [between]
  | a :: b :: l, x, h => by
    have ih := between_mem sep (b :: l)
    rw [between]
    · rcases List.mem_cons.1 h with rfl | h
      · simp
      · have := ih x h; simp only [List.length_append]; omega
    · simp

set_option maxHeartbeats 8000000 in
set_option maxRecDepth 100000 in
theorem write_spec : ∀ (d : Nat) (c : Cond), validC d c = true → smallC c → (writeF d c).length ≤ 1000000 → Spec Try.prog 19 [cAV c] [] (fun r h' => r = .d (.str (writeF d c)) ∧ h' = [])
  | 0, c, h, _, _ => by simp [validC] at h
  | d + 1, .mk k c v kids, h, hsm, hlenw => by
    have hch := Checks_spec
    have hvl := Values_spec
    have hklen := encCs_length kids
    have hsm' := hsm
    obtain ⟨hkl, hsk⟩ := hsm'
    have hin : ∀ (y : Cond), smallC y → validC d y = true → (writeF d y).length ≤ 1000000 → Spec Try.prog 19 [cAV y] [] (fun r h' => r = .d (.str (writeF d y)) ∧ h' = []) := fun y h1 h2 h3 => write_spec d y h2 h1 h3
    have hsmem : ∀ (l : List Cond), smallCs l → ∀ y, y ∈ l → smallC y := by
      intro l
      induction l with
      | nil => intro _ y hy; cases hy
      | cons a l ih =>
        intro hl y hy
        rcases List.mem_cons.1 hy with rfl | hy
        · exact hl.1
        · exact ih hl.2 y hy
    have hsk := hsmem kids hsk
    rw [writeF.eq_def] at hlenw ⊢
    simp only at hlenw ⊢
    refine Spec_of_body hT Try.func19 rfl rfl rfl rfl ?_
    intro E hE
    rcases valid_inv h with ⟨rfl, h1, h2, rfl⟩ | ⟨rfl, rfl, rfl, x, rfl, hx⟩ | ⟨hk, rfl, rfl, hl, hx⟩
    · have hn := Name_spec chk c (by omega) (by decide)
      have hn2 := Name_spec vls v (by omega) (by decide)
      have hcl := chk_len c
      have hvl2 := vls_len v
      simp only [if_true] at hlenw ⊢
      generalize nameOf chk c = nc at *
      generalize nameOf vls v = nv at *
      generalize strsAV chk = sc at *
      generalize strsAV vls = sv at *
      repeat (first | refine wk hT rfl rfl ?_ | refine wd hT rfl rfl rfl ?_ | refine wz hT rfl ?_ | refine AWd_nil ?_ | refine AWk_nil ?_ | refine wh hT rfl rfl rfl rfl ?_ | refine wg hT rfl rfl rfl rfl rfl ?_ | refine AW_seq ?_ | refine AW_region ?_ | refine wx mixed ?_ | refine AW_block ?_ | refine AW_skip ?_ | refine AW_exit ?_ | refine AW_ret ?_)
      refine AW_condL rfl (fun c1 => ?_) (fun c1 => ?_)
      · repeat (first | refine wk hT rfl rfl ?_ | refine wd hT rfl rfl rfl ?_ | refine wz hT rfl ?_ | refine AWd_nil ?_ | refine AWk_nil ?_ | refine wh hT rfl rfl rfl rfl ?_ | refine wg hT rfl rfl rfl rfl rfl ?_ | refine AW_seq ?_ | refine AW_region ?_ | refine wx mixed ?_ | refine AW_block ?_ | refine AW_skip ?_ | refine AW_exit ?_ | refine AW_ret ?_)
        first | refine AWk_op (callS0 rfl rfl (hch) rfl rfl rfl) rfl ?_ | refine AWd_op (callS0 rfl rfl (hch) rfl rfl rfl) rfl rfl ?_ | refine AWk_op (callS0L rfl rfl (hch) rfl (by repeat (first | exact trivial | exact AV.le.refl _ | exact AV.le.dat | exact AV.le.nils | exact AV.le.nilsf | exact AV.le.any _ | exact ObLe.refl _ | exact ⟨rfl, rfl⟩ | refine AV.le.tup ?_ | refine AV.le.agg ?_ | exact li | exact lb | exact ls | exact lk | exact ld | exact lz | refine ⟨?_, ?_⟩)) rfl rfl) rfl ?_ | refine AWd_op (callS0L rfl rfl (hch) rfl (by repeat (first | exact trivial | exact AV.le.refl _ | exact AV.le.dat | exact AV.le.nils | exact AV.le.nilsf | exact AV.le.any _ | exact ObLe.refl _ | exact ⟨rfl, rfl⟩ | refine AV.le.tup ?_ | refine AV.le.agg ?_ | exact li | exact lb | exact ls | exact lk | exact ld | exact lz | refine ⟨?_, ?_⟩)) rfl rfl) rfl rfl ?_
        repeat (first | refine wk hT rfl rfl ?_ | refine wd hT rfl rfl rfl ?_ | refine wz hT rfl ?_ | refine AWd_nil ?_ | refine AWk_nil ?_ | refine wh hT rfl rfl rfl rfl ?_ | refine wg hT rfl rfl rfl rfl rfl ?_ | refine AW_seq ?_ | refine AW_region ?_ | refine wx mixed ?_ | refine AW_block ?_ | refine AW_skip ?_ | refine AW_exit ?_ | refine AW_ret ?_)
        first | refine AWk_op (callS0 rfl rfl (hn) rfl rfl rfl) rfl ?_ | refine AWd_op (callS0 rfl rfl (hn) rfl rfl rfl) rfl rfl ?_ | refine AWk_op (callS0L rfl rfl (hn) rfl (by repeat (first | exact trivial | exact AV.le.refl _ | exact AV.le.dat | exact AV.le.nils | exact AV.le.nilsf | exact AV.le.any _ | exact ObLe.refl _ | exact ⟨rfl, rfl⟩ | refine AV.le.tup ?_ | refine AV.le.agg ?_ | exact li | exact lb | exact ls | exact lk | exact ld | exact lz | refine ⟨?_, ?_⟩)) rfl rfl) rfl ?_ | refine AWd_op (callS0L rfl rfl (hn) rfl (by repeat (first | exact trivial | exact AV.le.refl _ | exact AV.le.dat | exact AV.le.nils | exact AV.le.nilsf | exact AV.le.any _ | exact ObLe.refl _ | exact ⟨rfl, rfl⟩ | refine AV.le.tup ?_ | refine AV.le.agg ?_ | exact li | exact lb | exact ls | exact lk | exact ld | exact lz | refine ⟨?_, ?_⟩)) rfl rfl) rfl rfl ?_
        repeat (first | refine wk hT rfl rfl ?_ | refine wd hT rfl rfl rfl ?_ | refine wz hT rfl ?_ | refine AWd_nil ?_ | refine AWk_nil ?_ | refine wh hT rfl rfl rfl rfl ?_ | refine wg hT rfl rfl rfl rfl rfl ?_ | refine AW_seq ?_ | refine AW_region ?_ | refine wx mixed ?_ | refine AW_block ?_ | refine AW_skip ?_ | refine AW_exit ?_ | refine AW_ret ?_)
        refine AW_condL rfl (fun c2 => ?_) (fun c2 => ?_)
        · have c2' : ¬ v = 1 := by simpa using c2
          rw [if_neg c2'] at hlenw ⊢
          repeat (first | refine wk hT rfl rfl ?_ | refine wd hT rfl rfl rfl ?_ | refine wz hT rfl ?_ | refine AWd_nil ?_ | refine AWk_nil ?_ | refine wh hT rfl rfl rfl rfl ?_ | refine wg hT rfl rfl rfl rfl rfl ?_ | refine AW_seq ?_ | refine AW_region ?_ | refine wx mixed ?_ | refine AW_block ?_ | refine AW_skip ?_ | refine AW_exit ?_ | refine AW_ret ?_)
          first | refine AWk_op (callS0 rfl rfl (hvl) rfl rfl rfl) rfl ?_ | refine AWd_op (callS0 rfl rfl (hvl) rfl rfl rfl) rfl rfl ?_ | refine AWk_op (callS0L rfl rfl (hvl) rfl (by repeat (first | exact trivial | exact AV.le.refl _ | exact AV.le.dat | exact AV.le.nils | exact AV.le.nilsf | exact AV.le.any _ | exact ObLe.refl _ | exact ⟨rfl, rfl⟩ | refine AV.le.tup ?_ | refine AV.le.agg ?_ | exact li | exact lb | exact ls | exact lk | exact ld | exact lz | refine ⟨?_, ?_⟩)) rfl rfl) rfl ?_ | refine AWd_op (callS0L rfl rfl (hvl) rfl (by repeat (first | exact trivial | exact AV.le.refl _ | exact AV.le.dat | exact AV.le.nils | exact AV.le.nilsf | exact AV.le.any _ | exact ObLe.refl _ | exact ⟨rfl, rfl⟩ | refine AV.le.tup ?_ | refine AV.le.agg ?_ | exact li | exact lb | exact ls | exact lk | exact ld | exact lz | refine ⟨?_, ?_⟩)) rfl rfl) rfl rfl ?_
          repeat (first | refine wk hT rfl rfl ?_ | refine wd hT rfl rfl rfl ?_ | refine wz hT rfl ?_ | refine AWd_nil ?_ | refine AWk_nil ?_ | refine wh hT rfl rfl rfl rfl ?_ | refine wg hT rfl rfl rfl rfl rfl ?_ | refine AW_seq ?_ | refine AW_region ?_ | refine wx mixed ?_ | refine AW_block ?_ | refine AW_skip ?_ | refine AW_exit ?_ | refine AW_ret ?_)
          first | refine AWk_op (callS0 rfl rfl (hn2) rfl rfl rfl) rfl ?_ | refine AWd_op (callS0 rfl rfl (hn2) rfl rfl rfl) rfl rfl ?_ | refine AWk_op (callS0L rfl rfl (hn2) rfl (by repeat (first | exact trivial | exact AV.le.refl _ | exact AV.le.dat | exact AV.le.nils | exact AV.le.nilsf | exact AV.le.any _ | exact ObLe.refl _ | exact ⟨rfl, rfl⟩ | refine AV.le.tup ?_ | refine AV.le.agg ?_ | exact li | exact lb | exact ls | exact lk | exact ld | exact lz | refine ⟨?_, ?_⟩)) rfl rfl) rfl ?_ | refine AWd_op (callS0L rfl rfl (hn2) rfl (by repeat (first | exact trivial | exact AV.le.refl _ | exact AV.le.dat | exact AV.le.nils | exact AV.le.nilsf | exact AV.le.any _ | exact ObLe.refl _ | exact ⟨rfl, rfl⟩ | refine AV.le.tup ?_ | refine AV.le.agg ?_ | exact li | exact lb | exact ls | exact lk | exact ld | exact lz | refine ⟨?_, ?_⟩)) rfl rfl) rfl rfl ?_
          repeat (first | refine wk hT rfl rfl ?_ | refine wd hT rfl rfl rfl ?_ | refine wz hT rfl ?_ | refine AWd_nil ?_ | refine AWk_nil ?_ | refine wh hT rfl rfl rfl rfl ?_ | refine wg hT rfl rfl rfl rfl rfl ?_ | refine AW_seq ?_ | refine AW_region ?_ | refine wx mixed ?_ | refine AW_block ?_ | refine AW_skip ?_ | refine AW_exit ?_ | refine AW_ret ?_)
          first | exact rx ⟨rfl, rfl⟩ | exact rxN ⟨rfl, rfl⟩ | (refine rq ⟨rfl, rfl⟩ rfl ?_; repeat (first | exact trivial | exact AV.le.refl _ | exact AV.le.dat | exact AV.le.nils | exact AV.le.nilsf | exact AV.le.any _ | exact ObLe.refl _ | exact ⟨rfl, rfl⟩ | refine AV.le.tup ?_ | refine AV.le.agg ?_ | exact li | exact lb | exact ls | exact lk | exact ld | exact lz | refine ⟨?_, ?_⟩)) | (refine rqN ⟨rfl, rfl⟩ rfl ?_; repeat (first | exact trivial | exact AV.le.refl _ | exact AV.le.dat | exact AV.le.nils | exact AV.le.nilsf | exact AV.le.any _ | exact ObLe.refl _ | exact ⟨rfl, rfl⟩ | refine AV.le.tup ?_ | refine AV.le.agg ?_ | exact li | exact lb | exact ls | exact lk | exact ld | exact lz | refine ⟨?_, ?_⟩))
        · have c2' : v = 1 := by simpa using c2
          rw [if_pos c2', List.append_nil]
          repeat (first | refine wk hT rfl rfl ?_ | refine wd hT rfl rfl rfl ?_ | refine wz hT rfl ?_ | refine AWd_nil ?_ | refine AWk_nil ?_ | refine wh hT rfl rfl rfl rfl ?_ | refine wg hT rfl rfl rfl rfl rfl ?_ | refine AW_seq ?_ | refine AW_region ?_ | refine wx mixed ?_ | refine AW_block ?_ | refine AW_skip ?_ | refine AW_exit ?_ | refine AW_ret ?_)
          first | exact rx ⟨rfl, rfl⟩ | exact rxN ⟨rfl, rfl⟩ | (refine rq ⟨rfl, rfl⟩ rfl ?_; repeat (first | exact trivial | exact AV.le.refl _ | exact AV.le.dat | exact AV.le.nils | exact AV.le.nilsf | exact AV.le.any _ | exact ObLe.refl _ | exact ⟨rfl, rfl⟩ | refine AV.le.tup ?_ | refine AV.le.agg ?_ | exact li | exact lb | exact ls | exact lk | exact ld | exact lz | refine ⟨?_, ?_⟩)) | (refine rqN ⟨rfl, rfl⟩ rfl ?_; repeat (first | exact trivial | exact AV.le.refl _ | exact AV.le.dat | exact AV.le.nils | exact AV.le.nilsf | exact AV.le.any _ | exact ObLe.refl _ | exact ⟨rfl, rfl⟩ | refine AV.le.tup ?_ | refine AV.le.agg ?_ | exact li | exact lb | exact ls | exact lk | exact ld | exact lz | refine ⟨?_, ?_⟩))
      · simp at c1
    · have hsx := hsk x (by simp)
      simp only [show ¬ (2 : Int) = 1 from by omega, if_false, if_true] at hlenw ⊢
      have hxl : (writeF d x).length ≤ 1000000 := by
        have : (writeF d x).length ≤ (wrapS x (writeF d x)).length := by unfold wrapS; split <;> simp <;> omega
        rw [List.length_append] at hlenw; omega
      have hw := inside_spec x (writeF d x) (by omega) (hin x hsx hx hxl)
      generalize wrapS x (writeF d x) = sx at *
      have hsl : sx.length ≤ 1000000 := by rw [List.length_append] at hlenw; omega
      have hel : (encCs [x])[((0 : Int)).toNat]? = some (encC x) := by simp [encCs]
      have hel1 : (encCs [x]).length = 1 := by simp [encCs]
      obtain ⟨xk, xc, xv, xkids⟩ := x
      repeat (first | refine wk hT rfl rfl ?_ | refine wd hT rfl rfl rfl ?_ | refine wz hT rfl ?_ | refine AWd_nil ?_ | refine AWk_nil ?_ | refine wh hT rfl rfl rfl rfl ?_ | refine wg hT rfl rfl rfl rfl rfl ?_ | refine AW_seq ?_ | refine AW_region ?_ | refine wx mixed ?_ | refine AW_block ?_ | refine AW_skip ?_ | refine AW_exit ?_ | refine AW_ret ?_)
      refine AW_condL rfl (fun c1 => ?_) (fun c1 => ?_)
      · simp at c1
      · repeat (first | refine wk hT rfl rfl ?_ | refine wd hT rfl rfl rfl ?_ | refine wz hT rfl ?_ | refine AWd_nil ?_ | refine AWk_nil ?_ | refine wh hT rfl rfl rfl rfl ?_ | refine wg hT rfl rfl rfl rfl rfl ?_ | refine AW_seq ?_ | refine AW_region ?_ | refine wx mixed ?_ | refine AW_block ?_ | refine AW_skip ?_ | refine AW_exit ?_ | refine AW_ret ?_)
        refine AW_condL rfl (fun c2 => ?_) (fun c2 => ?_)
        · repeat (first | refine wk hT rfl rfl ?_ | refine wd hT rfl rfl rfl ?_ | refine wz hT rfl ?_ | refine AWd_nil ?_ | refine AWk_nil ?_ | refine wh hT rfl rfl rfl rfl ?_ | refine wg hT rfl rfl rfl rfl rfl ?_ | refine AW_seq ?_ | refine AW_region ?_ | refine wx mixed ?_ | refine AW_block ?_ | refine AW_skip ?_ | refine AW_exit ?_ | refine AW_ret ?_)
          refine AWk_op (OpS_of_pure (indexAddr_ok (i := 0) hT rfl rfl rfl rfl (by omega) hel)) rfl ?_
          repeat (first | refine wk hT rfl rfl ?_ | refine wd hT rfl rfl rfl ?_ | refine wz hT rfl ?_ | refine AWd_nil ?_ | refine AWk_nil ?_ | refine wh hT rfl rfl rfl rfl ?_ | refine wg hT rfl rfl rfl rfl rfl ?_ | refine AW_seq ?_ | refine AW_region ?_ | refine wx mixed ?_ | refine AW_block ?_ | refine AW_skip ?_ | refine AW_exit ?_ | refine AW_ret ?_)
          first | refine AWk_op (callS0 rfl rfl (hw) rfl rfl rfl) rfl ?_ | refine AWd_op (callS0 rfl rfl (hw) rfl rfl rfl) rfl rfl ?_ | refine AWk_op (callS0L rfl rfl (hw) rfl (by repeat (first | exact trivial | exact AV.le.refl _ | exact AV.le.dat | exact AV.le.nils | exact AV.le.nilsf | exact AV.le.any _ | exact ObLe.refl _ | exact ⟨rfl, rfl⟩ | refine AV.le.tup ?_ | refine AV.le.agg ?_ | exact li | exact lb | exact ls | exact lk | exact ld | exact lz | refine ⟨?_, ?_⟩)) rfl rfl) rfl ?_ | refine AWd_op (callS0L rfl rfl (hw) rfl (by repeat (first | exact trivial | exact AV.le.refl _ | exact AV.le.dat | exact AV.le.nils | exact AV.le.nilsf | exact AV.le.any _ | exact ObLe.refl _ | exact ⟨rfl, rfl⟩ | refine AV.le.tup ?_ | refine AV.le.agg ?_ | exact li | exact lb | exact ls | exact lk | exact ld | exact lz | refine ⟨?_, ?_⟩)) rfl rfl) rfl rfl ?_
          repeat (first | refine wk hT rfl rfl ?_ | refine wd hT rfl rfl rfl ?_ | refine wz hT rfl ?_ | refine AWd_nil ?_ | refine AWk_nil ?_ | refine wh hT rfl rfl rfl rfl ?_ | refine wg hT rfl rfl rfl rfl rfl ?_ | refine AW_seq ?_ | refine AW_region ?_ | refine wx mixed ?_ | refine AW_block ?_ | refine AW_skip ?_ | refine AW_exit ?_ | refine AW_ret ?_)
          first | exact rx ⟨rfl, rfl⟩ | exact rxN ⟨rfl, rfl⟩ | (refine rq ⟨rfl, rfl⟩ rfl ?_; repeat (first | exact trivial | exact AV.le.refl _ | exact AV.le.dat | exact AV.le.nils | exact AV.le.nilsf | exact AV.le.any _ | exact ObLe.refl _ | exact ⟨rfl, rfl⟩ | refine AV.le.tup ?_ | refine AV.le.agg ?_ | exact li | exact lb | exact ls | exact lk | exact ld | exact lz | refine ⟨?_, ?_⟩)) | (refine rqN ⟨rfl, rfl⟩ rfl ?_; repeat (first | exact trivial | exact AV.le.refl _ | exact AV.le.dat | exact AV.le.nils | exact AV.le.nilsf | exact AV.le.any _ | exact ObLe.refl _ | exact ⟨rfl, rfl⟩ | refine AV.le.tup ?_ | refine AV.le.agg ?_ | exact li | exact lb | exact ls | exact lk | exact ld | exact lz | refine ⟨?_, ?_⟩))
        · simp at c2
    · have hkne : ¬ k = 1 ∧ ¬ k = 2 := by omega
      simp only [hkne.1, hkne.2, if_false] at hlenw ⊢
      repeat (first | refine wk hT rfl rfl ?_ | refine wd hT rfl rfl rfl ?_ | refine wz hT rfl ?_ | refine AWd_nil ?_ | refine AWk_nil ?_ | refine wh hT rfl rfl rfl rfl ?_ | refine wg hT rfl rfl rfl rfl rfl ?_ | refine AW_seq ?_ | refine AW_region ?_ | refine wx mixed ?_ | refine AW_block ?_ | refine AW_skip ?_ | refine AW_exit ?_ | refine AW_ret ?_)
      refine AW_condL rfl (fun c1 => ?_) (fun c1 => ?_)
      · simp at c1; omega
      · repeat (first | refine wk hT rfl rfl ?_ | refine wd hT rfl rfl rfl ?_ | refine wz hT rfl ?_ | refine AWd_nil ?_ | refine AWk_nil ?_ | refine wh hT rfl rfl rfl rfl ?_ | refine wg hT rfl rfl rfl rfl rfl ?_ | refine AW_seq ?_ | refine AW_region ?_ | refine wx mixed ?_ | refine AW_block ?_ | refine AW_skip ?_ | refine AW_exit ?_ | refine AW_ret ?_)
        refine AW_condL rfl (fun c2 => ?_) (fun c2 => ?_)
        · simp at c2; omega
        · repeat (first | refine wk hT rfl rfl ?_ | refine wd hT rfl rfl rfl ?_ | refine wz hT rfl ?_ | refine AWd_nil ?_ | refine AWk_nil ?_ | refine wh hT rfl rfl rfl rfl ?_ | refine wg hT rfl rfl rfl rfl rfl ?_ | refine AW_seq ?_ | refine AW_region ?_ | refine wx mixed ?_ | refine AW_block ?_ | refine AW_skip ?_ | refine AW_exit ?_ | refine AW_ret ?_)
          refine AW_condL rfl (fun c3 => ?_) (fun c3 => ?_)
          · have c3' : k = 3 := by simpa using c3
            subst c3'
            simp only [if_true] at hlenw ⊢
            have hj := Join_spec (kids.map (fun x => wrapS x (writeF d x))) [32, 97, 110, 100, 32] (by rw [List.length_map]; omega) (by rw [join_between]; omega)
            rw [join_between] at hj
            have hmemL : ∀ x, x ∈ kids → (wrapS x (writeF d x)).length ≤ 1000000 := fun x hxm => Nat.le_trans (between_mem [32, 97, 110, 100, 32] (kids.map (fun x => wrapS x (writeF d x))) _ (List.mem_map.2 ⟨x, hxm, rfl⟩)) hlenw
            generalize between [32, 97, 110, 100, 32] (kids.map (fun x => wrapS x (writeF d x))) = fin at *
            refine AW_room (AW_acquireAt 4 1 1 (.inr ⟨rfl, rfl⟩) rfl ?_)
            repeat (first | refine wk hT rfl rfl ?_ | refine wd hT rfl rfl rfl ?_ | refine wz hT rfl ?_ | refine AWd_nil ?_ | refine AWk_nil ?_ | refine wh hT rfl rfl rfl rfl ?_ | refine wg hT rfl rfl rfl rfl rfl ?_ | refine AW_seq ?_ | refine AW_region ?_ | refine wx mixed ?_ | refine AW_block ?_ | refine AW_skip ?_ | refine AW_exit ?_ | refine AW_ret ?_)
            refine AW_loopC (ι := Nat) (fun j => [(1, .ptr 0 0), (3, .fn (.func 30) [] []), (4, .sl 1 (strsAV ((kids.take j).map (fun x => wrapS x (writeF d x)))) (.right 1)), (41, .d (.sl 4 (encCs kids))), (42, .d (.int .i64 ((encCs kids).length : Int))), (43, .d (.int .i64 (j : Int)))])
              (fun j => [.row [.d (.int .i64 3), .d (.int .i64 0), .d (.int .i64 0), .d (.sl 4 (encCs kids))], .right 1 (strsAV ((kids.take j).map (fun x => wrapS x (writeF d x)))).length])
              (fun j => j ≤ kids.length) (fun j => kids.length - j) 0 (Nat.zero_le _) ⟨.refl _, .refl _, .refl _, .refl _, .refl _, .refl _, trivial⟩ (HLe.refl _) ?_
            intro j hjl
            repeat (first | refine wk hT rfl rfl ?_ | refine wd hT rfl rfl rfl ?_ | refine wz hT rfl ?_ | refine AWd_nil ?_ | refine AWk_nil ?_ | refine wh hT rfl rfl rfl rfl ?_ | refine wg hT rfl rfl rfl rfl rfl ?_ | refine AW_seq ?_ | refine AW_region ?_ | refine wx mixed ?_ | refine AW_block ?_ | refine AW_skip ?_ | refine AW_exit ?_ | refine AW_ret ?_)
            refine AW_condL rfl (fun c4 => ?_) (fun c4 => ?_)
            · have hlt : j < kids.length := by rw [hklen] at c4; simpa using c4
              have hel : (encCs kids)[((j : Int)).toNat]? = some (encC kids[j]) := by simp [encCs_eq, hlt]
              have hxm := List.getElem_mem hlt
              have hwr : IntKind.i64.wrap ((j : Int) + 1) = ((j + 1 : Nat) : Int) := by rw [wrap_id (by omega)]; simp
              have htk : strsAV ((kids.take (j + 1)).map (fun x => wrapS x (writeF d x))) = strsAV ((kids.take j).map (fun x => wrapS x (writeF d x))) ++ strsAV [(fun x => wrapS x (writeF d x)) kids[j]] := by
                rw [List.take_succ_eq_append_getElem hlt, List.map_append, strsAV_append]; rfl
              have hal : (strsAV ((kids.take j).map (fun x => wrapS x (writeF d x)))).length ≤ 1000000000 := by rw [strsAV_length, List.length_map, List.length_take]; omega
              generalize kids[j] = x at hel hxm htk
              have hml := hmemL x hxm
              have hwl : (writeF d x).length ≤ 1000000 := by
                have : (writeF d x).length ≤ (wrapS x (writeF d x)).length := by first | exact Nat.le_refl _ | (unfold wrapS; split <;> simp <;> omega)
                omega
              have hw := inside_spec x (writeF d x) (by omega) (hin x (hsk x hxm) (hx x hxm).2 hwl)
              generalize strsAV ((kids.take j).map (fun x => wrapS x (writeF d x))) = sa at *
              generalize hval : wrapS x (writeF d x) = sx at *
              obtain ⟨xk, xc, xv, xkids⟩ := x
              repeat (first | refine wk hT rfl rfl ?_ | refine wd hT rfl rfl rfl ?_ | refine wz hT rfl ?_ | refine AWd_nil ?_ | refine AWk_nil ?_ | refine wh hT rfl rfl rfl rfl ?_ | refine wg hT rfl rfl rfl rfl rfl ?_ | refine AW_seq ?_ | refine AW_region ?_ | refine wx mixed ?_ | refine AW_block ?_ | refine AW_skip ?_ | refine AW_exit ?_ | refine AW_ret ?_)
              first | refine AWk_op (OpS_of_pure (indexAddr_ok hT rfl rfl rfl rfl (by omega) (hel))) rfl ?_ | refine AWd_op (OpS_of_pure (indexAddr_ok hT rfl rfl rfl rfl (by omega) (hel))) rfl rfl ?_
              repeat (first | refine wk hT rfl rfl ?_ | refine wd hT rfl rfl rfl ?_ | refine wz hT rfl ?_ | refine AWd_nil ?_ | refine AWk_nil ?_ | refine wh hT rfl rfl rfl rfl ?_ | refine wg hT rfl rfl rfl rfl rfl ?_ | refine AW_seq ?_ | refine AW_region ?_ | refine wx mixed ?_ | refine AW_block ?_ | refine AW_skip ?_ | refine AW_exit ?_ | refine AW_ret ?_)
              first | refine AWk_op (callS0 rfl rfl (hw) rfl rfl rfl) rfl ?_ | refine AWd_op (callS0 rfl rfl (hw) rfl rfl rfl) rfl rfl ?_ | refine AWk_op (callS0L rfl rfl (hw) rfl (by repeat (first | exact trivial | exact AV.le.refl _ | exact AV.le.dat | exact AV.le.nils | exact AV.le.nilsf | exact AV.le.any _ | exact ObLe.refl _ | exact ⟨rfl, rfl⟩ | refine AV.le.tup ?_ | refine AV.le.agg ?_ | exact li | exact lb | exact ls | exact lk | exact ld | exact lz | refine ⟨?_, ?_⟩)) rfl rfl) rfl ?_ | refine AWd_op (callS0L rfl rfl (hw) rfl (by repeat (first | exact trivial | exact AV.le.refl _ | exact AV.le.dat | exact AV.le.nils | exact AV.le.nilsf | exact AV.le.any _ | exact ObLe.refl _ | exact ⟨rfl, rfl⟩ | refine AV.le.tup ?_ | refine AV.le.agg ?_ | exact li | exact lb | exact ls | exact lk | exact ld | exact lz | refine ⟨?_, ?_⟩)) rfl rfl) rfl rfl ?_
              repeat (first | refine wk hT rfl rfl ?_ | refine wd hT rfl rfl rfl ?_ | refine wz hT rfl ?_ | refine AWd_nil ?_ | refine AWk_nil ?_ | refine wh hT rfl rfl rfl rfl ?_ | refine wg hT rfl rfl rfl rfl rfl ?_ | refine AW_seq ?_ | refine AW_region ?_ | refine wx mixed ?_ | refine AW_block ?_ | refine AW_skip ?_ | refine AW_exit ?_ | refine AW_ret ?_)
              refine AWk_op (append_right (i := 1) hT rfl rfl rfl rfl rfl rfl (by show (sa.length + 1) * (16 + 1) ≤ 140737488355328; omega)) rfl ?_
              repeat (first | refine wk hT rfl rfl ?_ | refine wd hT rfl rfl rfl ?_ | refine wz hT rfl ?_ | refine AWd_nil ?_ | refine AWk_nil ?_ | refine wh hT rfl rfl rfl rfl ?_ | refine wg hT rfl rfl rfl rfl rfl ?_ | refine AW_seq ?_ | refine AW_region ?_ | refine wx mixed ?_ | refine AW_block ?_ | refine AW_skip ?_ | refine AW_exit ?_ | refine AW_ret ?_)
              refine ⟨j + 1, [_], by omega, by omega, ⟨.refl _, .refl _, .eq ?_, .refl _, .refl _, .int hwr, trivial⟩, ⟨ObLe.refl _, ⟨rfl, ?_⟩, ObLe.refl _, trivial⟩, Env.below_mono hE (by simp), rfl, rfl⟩
              · rw [htk, ← hval]; rfl
              · rw [htk, List.length_append]; rfl
            · have hge : j = kids.length := by rw [hklen] at c4; simp at c4; omega
              subst hge
              rw [List.take_length]
              repeat (first | refine AW_exit ?_ | refine AW_skip ?_)
              refine AW_subL (l := [(4, .d (.sl 1 (strsAV (kids.map (fun x => wrapS x (writeF d x))))))]) (h' := [.dead, .dead]) ⟨AV.le.dat, trivial⟩ ⟨trivial, trivial, trivial⟩ ?_
              repeat (first | refine wk hT rfl rfl ?_ | refine wd hT rfl rfl rfl ?_ | refine wz hT rfl ?_ | refine AWd_nil ?_ | refine AWk_nil ?_ | refine wh hT rfl rfl rfl rfl ?_ | refine wg hT rfl rfl rfl rfl rfl ?_ | refine AW_seq ?_ | refine AW_region ?_ | refine wx mixed ?_ | refine AW_block ?_ | refine AW_skip ?_ | refine AW_exit ?_ | refine AW_ret ?_)
              first | refine AWk_op (callS0 rfl rfl (hj) rfl rfl rfl) rfl ?_ | refine AWd_op (callS0 rfl rfl (hj) rfl rfl rfl) rfl rfl ?_ | refine AWk_op (callS0L rfl rfl (hj) rfl (by repeat (first | exact trivial | exact AV.le.refl _ | exact AV.le.dat | exact AV.le.nils | exact AV.le.nilsf | exact AV.le.any _ | exact ObLe.refl _ | exact ⟨rfl, rfl⟩ | refine AV.le.tup ?_ | refine AV.le.agg ?_ | exact li | exact lb | exact ls | exact lk | exact ld | exact lz | refine ⟨?_, ?_⟩)) rfl rfl) rfl ?_ | refine AWd_op (callS0L rfl rfl (hj) rfl (by repeat (first | exact trivial | exact AV.le.refl _ | exact AV.le.dat | exact AV.le.nils | exact AV.le.nilsf | exact AV.le.any _ | exact ObLe.refl _ | exact ⟨rfl, rfl⟩ | refine AV.le.tup ?_ | refine AV.le.agg ?_ | exact li | exact lb | exact ls | exact lk | exact ld | exact lz | refine ⟨?_, ?_⟩)) rfl rfl) rfl rfl ?_
              repeat (first | refine wk hT rfl rfl ?_ | refine wd hT rfl rfl rfl ?_ | refine wz hT rfl ?_ | refine AWd_nil ?_ | refine AWk_nil ?_ | refine wh hT rfl rfl rfl rfl ?_ | refine wg hT rfl rfl rfl rfl rfl ?_ | refine AW_seq ?_ | refine AW_region ?_ | refine wx mixed ?_ | refine AW_block ?_ | refine AW_skip ?_ | refine AW_exit ?_ | refine AW_ret ?_)
              first | exact rx ⟨rfl, rfl⟩ | exact rxN ⟨rfl, rfl⟩ | (refine rq ⟨rfl, rfl⟩ rfl ?_; repeat (first | exact trivial | exact AV.le.refl _ | exact AV.le.dat | exact AV.le.nils | exact AV.le.nilsf | exact AV.le.any _ | exact ObLe.refl _ | exact ⟨rfl, rfl⟩ | refine AV.le.tup ?_ | refine AV.le.agg ?_ | exact li | exact lb | exact ls | exact lk | exact ld | exact lz | refine ⟨?_, ?_⟩)) | (refine rqN ⟨rfl, rfl⟩ rfl ?_; repeat (first | exact trivial | exact AV.le.refl _ | exact AV.le.dat | exact AV.le.nils | exact AV.le.nilsf | exact AV.le.any _ | exact ObLe.refl _ | exact ⟨rfl, rfl⟩ | refine AV.le.tup ?_ | refine AV.le.agg ?_ | exact li | exact lb | exact ls | exact lk | exact ld | exact lz | refine ⟨?_, ?_⟩))
          · have c3' : k = 4 := by simp at c3; omega
            subst c3'
            simp only [show ¬ (4 : Int) = 3 from by omega, if_false] at hlenw ⊢
            repeat (first | refine AW_exit ?_ | refine AW_skip ?_)
            have hj := Join_spec (kids.map (writeF d)) [32, 111, 114, 32] (by rw [List.length_map]; omega) (by rw [join_between]; omega)
            rw [join_between] at hj
            have hmemL : ∀ x, x ∈ kids → (writeF d x).length ≤ 1000000 := fun x hxm => Nat.le_trans (between_mem [32, 111, 114, 32] (kids.map (writeF d)) _ (List.mem_map.2 ⟨x, hxm, rfl⟩)) hlenw
            generalize between [32, 111, 114, 32] (kids.map (writeF d)) = fin at *
            refine AW_room (AW_acquireAt 4 1 1 (.inr ⟨rfl, rfl⟩) rfl ?_)
            repeat (first | refine wk hT rfl rfl ?_ | refine wd hT rfl rfl rfl ?_ | refine wz hT rfl ?_ | refine AWd_nil ?_ | refine AWk_nil ?_ | refine wh hT rfl rfl rfl rfl ?_ | refine wg hT rfl rfl rfl rfl rfl ?_ | refine AW_seq ?_ | refine AW_region ?_ | refine wx mixed ?_ | refine AW_block ?_ | refine AW_skip ?_ | refine AW_exit ?_ | refine AW_ret ?_)
            refine AW_loopC (ι := Nat) (fun j => [(1, .ptr 0 0), (3, .fn (.func 30) [] []), (4, .sl 1 (strsAV ((kids.take j).map (writeF d))) (.right 1)), (57, .d (.sl 4 (encCs kids))), (58, .d (.int .i64 ((encCs kids).length : Int))), (59, .d (.int .i64 (j : Int)))])
              (fun j => [.row [.d (.int .i64 4), .d (.int .i64 0), .d (.int .i64 0), .d (.sl 4 (encCs kids))], .right 1 (strsAV ((kids.take j).map (writeF d))).length])
              (fun j => j ≤ kids.length) (fun j => kids.length - j) 0 (Nat.zero_le _) ⟨.refl _, .refl _, .refl _, .refl _, .refl _, .refl _, trivial⟩ (HLe.refl _) ?_
            intro j hjl
            repeat (first | refine wk hT rfl rfl ?_ | refine wd hT rfl rfl rfl ?_ | refine wz hT rfl ?_ | refine AWd_nil ?_ | refine AWk_nil ?_ | refine wh hT rfl rfl rfl rfl ?_ | refine wg hT rfl rfl rfl rfl rfl ?_ | refine AW_seq ?_ | refine AW_region ?_ | refine wx mixed ?_ | refine AW_block ?_ | refine AW_skip ?_ | refine AW_exit ?_ | refine AW_ret ?_)
            refine AW_condL rfl (fun c4 => ?_) (fun c4 => ?_)
            · have hlt : j < kids.length := by rw [hklen] at c4; simpa using c4
              have hel : (encCs kids)[((j : Int)).toNat]? = some (encC kids[j]) := by simp [encCs_eq, hlt]
              have hxm := List.getElem_mem hlt
              have hwr : IntKind.i64.wrap ((j : Int) + 1) = ((j + 1 : Nat) : Int) := by rw [wrap_id (by omega)]; simp
              have htk : strsAV ((kids.take (j + 1)).map (writeF d)) = strsAV ((kids.take j).map (writeF d)) ++ strsAV [(writeF d) kids[j]] := by
                rw [List.take_succ_eq_append_getElem hlt, List.map_append, strsAV_append]; rfl
              have hal : (strsAV ((kids.take j).map (writeF d))).length ≤ 1000000000 := by rw [strsAV_length, List.length_map, List.length_take]; omega
              generalize kids[j] = x at hel hxm htk
              have hml := hmemL x hxm
              have hwl : (writeF d x).length ≤ 1000000 := by
                have : (writeF d x).length ≤ (writeF d x).length := by first | exact Nat.le_refl _ | (unfold wrapS; split <;> simp <;> omega)
                omega
              have hw := hin x (hsk x hxm) (hx x hxm).2 hwl
              generalize strsAV ((kids.take j).map (writeF d)) = sa at *
              generalize hval : writeF d x = sx at *
              obtain ⟨xk, xc, xv, xkids⟩ := x
              repeat (first | refine wk hT rfl rfl ?_ | refine wd hT rfl rfl rfl ?_ | refine wz hT rfl ?_ | refine AWd_nil ?_ | refine AWk_nil ?_ | refine wh hT rfl rfl rfl rfl ?_ | refine wg hT rfl rfl rfl rfl rfl ?_ | refine AW_seq ?_ | refine AW_region ?_ | refine wx mixed ?_ | refine AW_block ?_ | refine AW_skip ?_ | refine AW_exit ?_ | refine AW_ret ?_)
              first | refine AWk_op (OpS_of_pure (indexAddr_ok hT rfl rfl rfl rfl (by omega) (hel))) rfl ?_ | refine AWd_op (OpS_of_pure (indexAddr_ok hT rfl rfl rfl rfl (by omega) (hel))) rfl rfl ?_
              repeat (first | refine wk hT rfl rfl ?_ | refine wd hT rfl rfl rfl ?_ | refine wz hT rfl ?_ | refine AWd_nil ?_ | refine AWk_nil ?_ | refine wh hT rfl rfl rfl rfl ?_ | refine wg hT rfl rfl rfl rfl rfl ?_ | refine AW_seq ?_ | refine AW_region ?_ | refine wx mixed ?_ | refine AW_block ?_ | refine AW_skip ?_ | refine AW_exit ?_ | refine AW_ret ?_)
              first | refine AWk_op (callS0 rfl rfl (hw) rfl rfl rfl) rfl ?_ | refine AWd_op (callS0 rfl rfl (hw) rfl rfl rfl) rfl rfl ?_ | refine AWk_op (callS0L rfl rfl (hw) rfl (by repeat (first | exact trivial | exact AV.le.refl _ | exact AV.le.dat | exact AV.le.nils | exact AV.le.nilsf | exact AV.le.any _ | exact ObLe.refl _ | exact ⟨rfl, rfl⟩ | refine AV.le.tup ?_ | refine AV.le.agg ?_ | exact li | exact lb | exact ls | exact lk | exact ld | exact lz | refine ⟨?_, ?_⟩)) rfl rfl) rfl ?_ | refine AWd_op (callS0L rfl rfl (hw) rfl (by repeat (first | exact trivial | exact AV.le.refl _ | exact AV.le.dat | exact AV.le.nils | exact AV.le.nilsf | exact AV.le.any _ | exact ObLe.refl _ | exact ⟨rfl, rfl⟩ | refine AV.le.tup ?_ | refine AV.le.agg ?_ | exact li | exact lb | exact ls | exact lk | exact ld | exact lz | refine ⟨?_, ?_⟩)) rfl rfl) rfl rfl ?_
              repeat (first | refine wk hT rfl rfl ?_ | refine wd hT rfl rfl rfl ?_ | refine wz hT rfl ?_ | refine AWd_nil ?_ | refine AWk_nil ?_ | refine wh hT rfl rfl rfl rfl ?_ | refine wg hT rfl rfl rfl rfl rfl ?_ | refine AW_seq ?_ | refine AW_region ?_ | refine wx mixed ?_ | refine AW_block ?_ | refine AW_skip ?_ | refine AW_exit ?_ | refine AW_ret ?_)
              refine AWk_op (append_right (i := 1) hT rfl rfl rfl rfl rfl rfl (by show (sa.length + 1) * (16 + 1) ≤ 140737488355328; omega)) rfl ?_
              repeat (first | refine wk hT rfl rfl ?_ | refine wd hT rfl rfl rfl ?_ | refine wz hT rfl ?_ | refine AWd_nil ?_ | refine AWk_nil ?_ | refine wh hT rfl rfl rfl rfl ?_ | refine wg hT rfl rfl rfl rfl rfl ?_ | refine AW_seq ?_ | refine AW_region ?_ | refine wx mixed ?_ | refine AW_block ?_ | refine AW_skip ?_ | refine AW_exit ?_ | refine AW_ret ?_)
              refine ⟨j + 1, [_], by omega, by omega, ⟨.refl _, .refl _, .eq ?_, .refl _, .refl _, .int hwr, trivial⟩, ⟨ObLe.refl _, ⟨rfl, ?_⟩, ObLe.refl _, trivial⟩, Env.below_mono hE (by simp), rfl, rfl⟩
              · rw [htk, ← hval]; rfl
              · rw [htk, List.length_append]; rfl
            · have hge : j = kids.length := by rw [hklen] at c4; simp at c4; omega
              subst hge
              rw [List.take_length]
              repeat (first | refine AW_exit ?_ | refine AW_skip ?_)
              refine AW_subL (l := [(4, .d (.sl 1 (strsAV (kids.map (writeF d)))))]) (h' := [.dead, .dead]) ⟨AV.le.dat, trivial⟩ ⟨trivial, trivial, trivial⟩ ?_
              repeat (first | refine wk hT rfl rfl ?_ | refine wd hT rfl rfl rfl ?_ | refine wz hT rfl ?_ | refine AWd_nil ?_ | refine AWk_nil ?_ | refine wh hT rfl rfl rfl rfl ?_ | refine wg hT rfl rfl rfl rfl rfl ?_ | refine AW_seq ?_ | refine AW_region ?_ | refine wx mixed ?_ | refine AW_block ?_ | refine AW_skip ?_ | refine AW_exit ?_ | refine AW_ret ?_)
              first | refine AWk_op (callS0 rfl rfl (hj) rfl rfl rfl) rfl ?_ | refine AWd_op (callS0 rfl rfl (hj) rfl rfl rfl) rfl rfl ?_ | refine AWk_op (callS0L rfl rfl (hj) rfl (by repeat (first | exact trivial | exact AV.le.refl _ | exact AV.le.dat | exact AV.le.nils | exact AV.le.nilsf | exact AV.le.any _ | exact ObLe.refl _ | exact ⟨rfl, rfl⟩ | refine AV.le.tup ?_ | refine AV.le.agg ?_ | exact li | exact lb | exact ls | exact lk | exact ld | exact lz | refine ⟨?_, ?_⟩)) rfl rfl) rfl ?_ | refine AWd_op (callS0L rfl rfl (hj) rfl (by repeat (first | exact trivial | exact AV.le.refl _ | exact AV.le.dat | exact AV.le.nils | exact AV.le.nilsf | exact AV.le.any _ | exact ObLe.refl _ | exact ⟨rfl, rfl⟩ | refine AV.le.tup ?_ | refine AV.le.agg ?_ | exact li | exact lb | exact ls | exact lk | exact ld | exact lz | refine ⟨?_, ?_⟩)) rfl rfl) rfl rfl ?_
              repeat (first | refine wk hT rfl rfl ?_ | refine wd hT rfl rfl rfl ?_ | refine wz hT rfl ?_ | refine AWd_nil ?_ | refine AWk_nil ?_ | refine wh hT rfl rfl rfl rfl ?_ | refine wg hT rfl rfl rfl rfl rfl ?_ | refine AW_seq ?_ | refine AW_region ?_ | refine wx mixed ?_ | refine AW_block ?_ | refine AW_skip ?_ | refine AW_exit ?_ | refine AW_ret ?_)
              first | exact rx ⟨rfl, rfl⟩ | exact rxN ⟨rfl, rfl⟩ | (refine rq ⟨rfl, rfl⟩ rfl ?_; repeat (first | exact trivial | exact AV.le.refl _ | exact AV.le.dat | exact AV.le.nils | exact AV.le.nilsf | exact AV.le.any _ | exact ObLe.refl _ | exact ⟨rfl, rfl⟩ | refine AV.le.tup ?_ | refine AV.le.agg ?_ | exact li | exact lb | exact ls | exact lk | exact ld | exact lz | refine ⟨?_, ?_⟩)) | (refine rqN ⟨rfl, rfl⟩ rfl ?_; repeat (first | exact trivial | exact AV.le.refl _ | exact AV.le.dat | exact AV.le.nils | exact AV.le.nilsf | exact AV.le.any _ | exact ObLe.refl _ | exact ⟨rfl, rfl⟩ | refine AV.le.tup ?_ | refine AV.le.agg ?_ | exact li | exact lb | exact ls | exact lk | exact ld | exact lz | refine ⟨?_, ?_⟩))
end Tdoc
/- strings.Builder at this program: String, and the two as contracts of this layer over an owned object that is told by its bytes alone. -/
set_option linter.unusedVariables false
set_option linter.unusedSimpArgs false
namespace Tdoc
open Go Go.Proofs

set_option maxHeartbeats 2000000 in
set_option maxRecDepth 100000 in
/-- String: the bytes; in the row that holds them they are frozen, nothing else has turned. -/
theorem bld_string (w : World) (b : Nat) (p v : Value) (l : List UInt8) (hb : w.heap[b]? = some (.cells #[p, v] 52 (0, 0))) (hown : w.ownsRow 0 5 1 v l.length (Lib.byteCells l)) (h0 : l ≠ []) :
    Calls Try.prog 20 #[.pointer (some ⟨b, 0, none⟩)] w fun e w' => e = .returned (.string ⟨l.toArray⟩) ∧ w.grownBy w' v.ownBlock ∧ (∀ a, w'.cell? a = w.cell? a) := by
  have hl0 : l.length ≠ 0 := by simpa using h0
  have mixed := mixed
  obtain ⟨g, cap, cur, rfl, hbg, hg, hnc, hcm, hcs, htake⟩ : ∃ g cap cur, v = .slice (some ⟨g, 0, none⟩) l.length cap ∧ 0 ≤ g ∧ w.heap[g]? = some (.cells cur 5 (0, 0)) ∧ l.length ≤ cap ∧ cap ≤ maxLen ∧ cur.size = cap * 1 ∧ cur.toList.take (l.length * 1) = Lib.byteCells l := by
    rcases hown.2 with ⟨_, hz⟩ | ⟨g, cap, cur, hv, r⟩
    · exact absurd hz hl0
    · exact ⟨g, cap, cur, hv, r⟩
  have c1 : w.drew.cell? ⟨b, 1, none⟩ = some (.slice (some ⟨g, 0, none⟩) l.length cap) := by
    have h : w.drew.heap[b]? = some (.cells #[p, .slice (some ⟨g, 0, none⟩) l.length cap] 52 (0, 0)) := hb
    simp [World.cell?, h]
  have hSD : (Builtin.unsafeSliceData_ #[50] 75 #[.slice (some ⟨g, 0, none⟩) l.length cap]).run Try.prog w.drew = .ok (.pointer (some ⟨g, 0, none⟩)) w.drew :=
    Lib.run_unsafeSliceData_row _ _ _ _ _ _ (by omega)
  have hUS : (Builtin.unsafeString_ #[75, 3] 9 #[.pointer (some ⟨g, 0, none⟩), .int .i64 l.length]).run Try.prog w.drew = .ok (.string ⟨l.toArray⟩) (w.drew.freeze ⟨g, 0, none⟩ l.length) := by
    refine Lib.run_unsafeString_row w.drew 75 3 9 5 Try.underlying75 Try.Builder_Extra_156.cellsByte g cur.size (by have hg' : w.drew.heap[g]? = some (.cells cur 5 (0, 0)) := hg; simp [World.shape?, hg']) l h0 (by omega) (by unfold maxLen at hcm; omega) ?_
    intro j x hx
    have := hown.cells (g := g) rfl j (.int .u8 x.toNat) (by simp [Lib.byteCells, hx])
    exact this
  have hglt : g < w.heap.size := (Array.getElem?_eq_some_iff.1 hg).1
  have hfin : w.grownBy (w.drew.freeze ⟨g, 0, none⟩ l.length) (Value.ownBlock (.slice (some ⟨g, 0, none⟩) l.length cap)) ∧ (∀ a, (w.drew.freeze ⟨g, 0, none⟩ l.length).cell? a = w.cell? a) := by
    have hg' : w.drew.heap[g]? = some (.cells cur 5 (0, 0)) := hg
    refine ⟨⟨by simp [World.freeze, hl0] <;> rfl, by simp [World.freeze, hl0] <;> rfl, by simp [World.freeze, hl0] <;> rfl, by simp [World.freeze, hl0] <;> exact Nat.le_refl _, fun k hk hne => ?_⟩, fun a => ?_⟩
    · have : ¬ g = k := fun hh => hne (by rw [← hh]; rfl)
      simp [World.freeze, hl0, Array.getElem?_modify, this] <;> rfl
    · simp only [World.freeze, hl0, if_false, World.cell?]
      by_cases hgk : g = a.block
      · subst hgk
        simp [Array.getElem?_modify, hg, hg']
      · simp [Array.getElem?_modify, hgk] <;> rfl
  go_enter Try.func20, Try.ntmps20
  go_wp2
  go_region_o
  all_goals (go_wp2; go_ret; exact ⟨rfl, hfin⟩)
end Tdoc
/- strings.Builder as an owned object of this layer: made, written, read. -/
set_option linter.unusedVariables false
set_option linter.unusedSimpArgs false
namespace Tdoc
open Go Go.Proofs

/-- A builder that holds these bytes. -/
def bldR (l : List UInt8) : (Nat → Option Obj) → Nat → List Nat → Prop := fun f b S => ∃ p v, f b = some (.cells #[p, v] 52 (0, 0)) ∧ (p = .pointer none ∨ p = .pointer (some ⟨b, 0, none⟩)) ∧ v.ownBlock ≠ some b ∧ (∀ g, v.ownBlock = some g → g ∈ S) ∧
  ((v = .slice none 0 0 ∧ l.length = 0) ∨ ∃ g cap cur, v = .slice (some ⟨g, 0, none⟩) l.length cap ∧ 0 ≤ g ∧ f g = some (.cells cur 5 (0, 0)) ∧ l.length ≤ cap ∧ cap ≤ maxLen ∧ cur.size = cap * 1 ∧ cur.toList.take (l.length * 1) = Lib.byteCells l)

theorem bldR_local (l : List UInt8) (b : Nat) (S : List Nat) (hb : b ∈ S) : ∀ f g : Nat → Option Obj, (∀ k, k ∈ S → f k = g k) → bldR l f b S → bldR l g b S := by
  rintro f g hfg ⟨p, v, h1, h2, h3, h4, h5⟩
  refine ⟨p, v, by rw [← hfg b hb]; exact h1, h2, h3, h4, ?_⟩
  rcases h5 with h | ⟨x, cap, cur, rfl, hx, hg, r⟩
  · exact .inl h
  · exact .inr ⟨x, cap, cur, rfl, hx, by rw [← hfg x (h4 x rfl)]; exact hg, r⟩

theorem bldR_owns {l : List UInt8} {w : World} {v : Value} (h : (v = .slice none 0 0 ∧ l.length = 0) ∨ ∃ g cap cur, v = .slice (some ⟨g, 0, none⟩) l.length cap ∧ 0 ≤ g ∧ w.heap[g]? = some (.cells cur 5 (0, 0)) ∧ l.length ≤ cap ∧ cap ≤ maxLen ∧ cur.size = cap * 1 ∧ cur.toList.take (l.length * 1) = Lib.byteCells l) :
    w.ownsRow 0 5 1 v l.length (Lib.byteCells l) := ⟨by simp [Lib.byteCells], h⟩

theorem WRel.opqSet {w w' : World} {G : Gh} {htab : TabOk w G} {R R' : (Nat → Option Obj) → Nat → List Nat → Prop} {b : Nat} {S S' : List Nat} (hw : WRel ⟨w, G, htab⟩ G [.opq R] w) (hl : G.loc 0 = some b) (hrt : ∀ n, G.rt 0 n = none)
    (hS : ∀ k, k ∈ S → G.own k = some 0 ∧ ∀ a : Addr, a.block = k → G.imm a = none) (hframe : ∀ k, k < w.heap.size → ¬ k ∈ S → w'.heap[k]? = w.heap[k]?) (hsz : w.heap.size ≤ w'.heap.size) (ho : w'.os = w.os) (ht : w'.tape = w.tape) (hu : w'.output = w.output)
    (hb : b ∈ S') (hS' : ∀ k, k ∈ S' → k ∈ S ∨ (w.heap.size ≤ k ∧ k < w'.heap.size)) (hR : R' (fun k => w'.heap[k]?) b S') (hloc : ∀ f g : Nat → Option Obj, (∀ k, k ∈ S' → f k = g k) → R' f b S' → R' g b S') :
    ∃ G', G.le G' ∧ WRel ⟨w, G, htab⟩ G' [.opq R'] w' := by
  let G' : Gh := { G with own := fun k => if w.heap.size ≤ k ∧ k ∈ S' then some 0 else G.own k }
  have hown : ∀ k j, G.own k = some j → G'.own k = some j := fun k j h => by
    have := (hw.own k j h).1
    show (if _ then _ else _) = _
    rw [if_neg (by omega)]; exact h
  have himm : ∀ a v, G.imm a = some v → a.block < w.heap.size ∧ ¬ a.block ∈ S := fun a v h => ⟨cell_block_lt (hw.imm a v h), fun hh => by rw [(hS _ hh).2 a rfl] at h; cases h⟩
  refine ⟨G', ⟨fun _ _ h => h, fun _ _ h => h, fun _ _ _ h => h, hown⟩, ⟨⟨fun _ _ h => h, fun _ _ h => h, fun _ _ _ h => h, hown⟩, fun a v h => ?_, fun a v h => .inl h, fun k hk => ?_, hsz, ho, ht, hu, fun k j h => ?_, fun i hi => hw.fresh i hi, fun i o hi => ?_⟩⟩
  · have := himm a v h
    rw [World.cell?_of_block (w := w) (hframe _ this.1 this.2)]; exact hw.imm a v h
  · have hk' : k < w.heap.size ∧ G.own k = none := hk
    exact hframe k hk'.1 (fun hh => by rw [(hS k hh).1] at hk'; cases hk'.2)
  · have h' : (if w.heap.size ≤ k ∧ k ∈ S' then some 0 else G.own k) = some j := h
    split at h'
    · rename_i hc
      rcases hS' k hc.2 with hh | hh
      · have := (hw.own k 0 (hS k hh).1).1; omega
      · exact ⟨hh.2, fun hk => by have hk' : k < w.heap.size ∧ _ := hk; omega⟩
    · have := hw.own k j h'; exact ⟨by omega, this.2⟩
  · match i, hi with
    | 0, hi =>
      cases hi
      refine ⟨b, S', hl, hb, hrt, fun k hk => ?_, hR, hloc⟩
      rcases hS' k hk with hh | hh
      · exact ⟨hown k 0 (hS k hh).1, (hS k hh).2⟩
      · refine ⟨?_, fun a ha => ?_⟩
        · show (if _ then _ else _) = _
          rw [if_pos ⟨hh.1, hk⟩]
        · cases hx : G.imm a with
          | none => rfl
          | some v => have := (himm a v hx).1; omega
    | i + 1, hi => simp at hi

theorem funcOk2 {f : FuncId} {fn : Func} (h : Try.prog.funcs[f]? = some fn) (h1 : (fn.name == "runtime.NumGoroutine") = false) (h2 : fn.body.isNone = false) : ∃ fn, Try.prog.funcs[f]? = some fn ∧ (fn.name == "runtime.NumGoroutine") = false ∧ fn.body.isNone = false := ⟨fn, h, h1, h2⟩

theorem bytes_app (l s : List UInt8) : Lib.byteCells l ++ Lib.strCells ⟨s.toArray⟩ = Lib.byteCells (l ++ s) := by
  simp [Lib.byteCells, Lib.strCells]

theorem WriteString_spec (l s : List UInt8) (hlen : l.length + s.length ≤ 140737488355328) : Spec Try.prog 16 [.ptr 0 0, .d (.str s)] [.opq (bldR l)] (fun r h' => r = .tup [.d (.int .i64 (s.length : Int)), .ifc true] ∧ h' = [.opq (bldR (l ++ s))]) := by
  refine ⟨funcOk2 Try.func16 rfl rfl, fun G w vals h1 h2 htab hw => ?_⟩
  obtain ⟨⟨vl⟩, hvals⟩ : ∃ x, vals = x := ⟨vals, rfl⟩
  subst hvals
  match vl, h1 with
  | [v0, v1], _ =>
    have hv0 := h2 0 _ v0 rfl rfl
    have hv1 := (h2 1 _ v1 rfl rfl).str_inv
    subst hv1
    obtain ⟨b, rfl, hl⟩ := hv0.ptr_inv
    obtain ⟨b', S, k1, k2, k3, k4, ⟨p, v, r1, r2, r3, r4, r5⟩, k6⟩ := hw.obj 0 _ rfl
    rw [hl] at k1; cases k1
    refine (bld_write w b p v l s r1 r2 (bldR_owns r5) r3 hlen).mono ?_
    rintro e w' ⟨rfl, v', q1, q2, q3, q4, q5, q6, q7, q8⟩
    rw [bytes_app] at q2
    have hbl : b < w.heap.size := (Array.getElem?_eq_some_iff.1 r1).1
    have hvb : v'.ownBlock ≠ some b := by
      rcases q8 with h | h | ⟨g, h, hg⟩
      · rw [h]; exact r3
      · rw [h]; simp
      · rw [h]; intro hh; cases hh; omega
    have hgl : ∀ g, v'.ownBlock = some g → g < w'.heap.size := fun g hg => by
      rcases q2.2 with ⟨rfl, _⟩ | ⟨g', cap, cur, rfl, _, hh, _⟩
      · cases hg
      · cases hg; exact (Array.getElem?_eq_some_iff.1 hh).1
    obtain ⟨G', hle, hw'⟩ := hw.opqSet (R' := bldR (l ++ s)) (S' := b :: v'.ownBlock.toList) hl k3 k4 (fun k hk hn => q3 k hk (fun hh => hn (by rw [hh]; exact k2)) (fun hh => hn (r4 k hh))) q4 q5 q6 q7 (by simp) (fun k hk => by
        rcases List.mem_cons.1 hk with rfl | hk
        · exact .inl k2
        · have hk' : v'.ownBlock = some k := by simpa using hk
          rcases q8 with h | h | ⟨g, h, hg⟩
          · exact .inl (r4 k (h ▸ hk'))
          · rw [h] at hk'; cases hk'
          · rw [h] at hk'; cases hk'; exact .inr ⟨hg, hgl _ h⟩)
      ⟨_, v', q1, .inr rfl, hvb, fun g hg => by simp [hg], by have := q2.2; rw [List.length_append]; exact this⟩ (bldR_local _ b _ (by simp))
    refine ⟨_, _, _, G', rfl, ⟨rfl, rfl⟩, rfl, rfl, rfl, .tup _ rfl fun j x y hx hy => ?_, hw'⟩
    match j, hx, hy with
    | 0, hx, hy => simp at hx hy; subst hx; subst hy; exact .d (.int _ _)
    | 1, hx, hy => simp at hx hy; subst hx; subst hy; exact .ifc rfl
    | j + 2, hx, hy => simp at hx

theorem String_spec (l : List UInt8) (h0 : l ≠ []) : Spec Try.prog 20 [.ptr 0 0] [.opq (bldR l)] (fun r h' => r = .d (.str l) ∧ h' = [.dead]) := by
  refine ⟨funcOk2 Try.func20 rfl rfl, fun G w vals h1 h2 htab hw => ?_⟩
  obtain ⟨⟨vl⟩, hvals⟩ : ∃ x, vals = x := ⟨vals, rfl⟩
  subst hvals
  match vl, h1 with
  | [v0], _ =>
    have hv0 := h2 0 _ v0 rfl rfl
    obtain ⟨b, rfl, hl⟩ := hv0.ptr_inv
    obtain ⟨b', S, k1, k2, k3, k4, ⟨p, v, r1, r2, r3, r4, r5⟩, k6⟩ := hw.obj 0 _ rfl
    rw [hl] at k1; cases k1
    refine (bld_string w b p v l r1 (bldR_owns r5) h0).mono ?_
    rintro e w' ⟨rfl, hg, hc⟩
    refine ⟨_, _, _, G, rfl, ⟨rfl, rfl⟩, rfl, rfl, rfl, .d (.str l), ⟨.refl _, fun a u hu => by rw [hc]; exact hw.imm a u hu, fun a u hu => .inl hu, fun k hk => ?_, hg.size, hg.os, hg.tape, hg.output, fun k j hj => ⟨Nat.lt_of_lt_of_le (hw.own k j hj).1 hg.size, (hw.own k j hj).2⟩, fun i hi => hw.fresh i hi, fun i o hi => ?_⟩⟩
    · have hk' : k < w.heap.size ∧ G.own k = none := hk
      exact hg.block k hk'.1 (fun hh => by rw [(k4 k (r4 k hh.symm)).1] at hk'; cases hk'.2)
    · match i, hi with
      | 0, hi => cases hi; exact True.intro
      | i + 1, hi => simp at hi

/-- A new builder. -/
theorem allocBld_ok {E : Env} {o : Oper} {ρ : Operand → AV} {h : List AObj} (ho : o.op = .alloc 52) : OpS Try.prog E o ρ h (.ptr h.length 0) (h ++ [.opq (bldR [])]) :=
  OpS_of_run fun G e w hw hr => by
    have hz := Try.zeroValue52 w
    have hn := hw.newRow #[.pointer none, .slice none 0 0] 52 [.nilp, .nils] rfl (fun j c u h1 h2 => by
      match j, h1, h2 with
      | 0, h1, h2 => simp at h1 h2; subst h1; subst h2; exact ⟨.nilp, rfl⟩
      | 1, h1, h2 => simp at h1 h2; subst h1; subst h2; exact ⟨.nils, rfl⟩
      | j + 2, h1, h2 => simp at h1) { w with heap := w.heap.push (.cells #[.pointer none, .slice none 0 0] 52) } rfl rfl rfl rfl
    have hb0 : (rowNew G h.length w.heap.size).loc h.length = some w.heap.size := by show (if h.length = h.length then _ else _) = _; simp
    refine ⟨.pointer (some ⟨w.heap.size, 0, none⟩), _, _, ?_, hn.1, ⟨hn.2.le, hn.2.imm, hn.2.immNew, hn.2.keep, hn.2.size, hn.2.os, hn.2.tape, hn.2.output, hn.2.own, fun i hi => hn.2.fresh i (by simpa using hi), fun i ob hi => ?_⟩, .ptr 0 hb0⟩
    · unfold execOp
      simp [ho, Instr.alloc, hz, newVar, newRow, Value.cells]
    · by_cases hil : i < h.length
      · rw [List.getElem?_append_left hil] at hi
        exact hn.2.obj i ob (by rw [List.getElem?_append_left hil]; exact hi)
      · rw [List.getElem?_append_right (by omega)] at hi
        have hi0 : i - h.length = 0 := by have := (List.getElem?_eq_some_iff.1 hi).1; simp at this; omega
        rw [hi0] at hi
        cases hi
        have hie : i = h.length := by omega
        subst hie
        obtain ⟨b, g1, g2, g3, g4⟩ := hn.2.obj h.length (.row [.nilp, .nils]) (by simp)
        rw [hb0] at g1; cases g1
        refine ⟨w.heap.size, [w.heap.size], hb0, by simp, g4.2, fun k hk => ?_, ⟨.pointer none, .slice none 0 0, by simp, .inl rfl, by simp [Value.ownBlock], fun g hg => by simp [Value.ownBlock] at hg, .inl ⟨rfl, rfl⟩⟩, bldR_local _ _ _ (by simp)⟩
        have : k = w.heap.size := by simpa using hk
        subst this
        exact ⟨g2, g4.1⟩
end Tdoc
/- Package policy: Format. -/
set_option linter.unusedVariables false
set_option linter.unusedSimpArgs false
namespace Tdoc
open Go Go.Proofs

theorem firstErr_all : ∀ (l : List Rule), firstErr l = 0 → ∀ r, r ∈ l → ruleErr r = 0
  | [], _, r, hr => by cases hr
  | a :: l, h, r, hr => by
    rw [firstErr] at h
    by_cases h0 : ruleErr a = 0
    · rw [if_pos h0] at h
      rcases List.mem_cons.1 hr with rfl | hr
      · exact h0
      · exact firstErr_all l h r hr
    · rw [if_neg h0] at h; exact absurd h h0
theorem pre_len {rs : List Rule} {j : Nat} (h : j < rs.length) : ((rs.take j).flatMap ruleF).length + (ruleF rs[j]).length ≤ (rs.flatMap ruleF).length := by
  have : rs.flatMap ruleF = (rs.take (j + 1)).flatMap ruleF ++ (rs.drop (j + 1)).flatMap ruleF := by rw [← List.flatMap_append, List.take_append_drop]
  rw [this, List.take_succ_eq_append_getElem h, List.flatMap_append]
  simp [List.flatMap_cons]
theorem rules_ne {rs : List Rule} (h : rs ≠ []) : rs.flatMap ruleF ≠ [] := by
  cases rs with
  | nil => exact absurd rfl h
  | cons a l =>
    obtain ⟨v, al, c⟩ := a
    simp [List.flatMap_cons, ruleF]

set_option maxHeartbeats 8000000 in
set_option maxRecDepth 100000 in
theorem Format_spec (rs : List Rule) (hv : validPol rs = 0) (h0 : rs ≠ []) (hs : ∀ r, r ∈ rs → smallC (condR r)) (hl : (formatF rs).length ≤ 1000000) :
    Spec Try.prog 7 [polAV rs] [] (fun r h' => r = .d (.str (formatF rs)) ∧ h' = []) := by
  have hval := Valid_spec rs hs
  have hvd := Verdicts_spec
  have hz : rs.length ≤ 32 ∧ firstErr rs = 0 := by
    unfold validPol at hv
    split at hv
    · cases hv
    · exact ⟨by omega, hv⟩
  have hf : formatF rs = rs.flatMap ruleF := by unfold formatF; rw [if_neg (by omega)]
  rw [hf] at hl ⊢
  rw [hv] at hval
  have hlen : (encRs rs).length = rs.length := by simp [encRs]
  have herr := firstErr_all rs hz.2
  have hst := String_spec (rs.flatMap ruleF) (rules_ne h0)
  refine Spec_of_body hT Try.func7 rfl rfl rfl rfl ?_
  intro E hE
  repeat (first | refine wk hT rfl rfl ?_ | refine wd hT rfl rfl rfl ?_ | refine wz hT rfl ?_ | refine AWd_nil ?_ | refine AWk_nil ?_ | refine wh hT rfl rfl rfl rfl ?_ | refine wg hT rfl rfl rfl rfl rfl ?_ | refine AW_seq ?_ | refine AW_region ?_ | refine wx mixed ?_ | refine AW_block ?_ | refine AW_skip ?_ | refine AW_exit ?_ | refine AW_ret ?_)
  first | refine AWk_op (callS0 rfl rfl (hval) rfl rfl rfl) rfl ?_ | refine AWd_op (callS0 rfl rfl (hval) rfl rfl rfl) rfl rfl ?_ | refine AWk_op (callS0L rfl rfl (hval) rfl (by repeat (first | exact trivial | exact AV.le.refl _ | exact AV.le.dat | exact AV.le.nils | exact AV.le.nilsf | exact AV.le.any _ | exact ObLe.refl _ | exact ⟨rfl, rfl⟩ | refine AV.le.tup ?_ | refine AV.le.agg ?_ | exact li | exact lb | exact ls | exact lk | exact ld | exact lz | refine ⟨?_, ?_⟩)) rfl rfl) rfl ?_ | refine AWd_op (callS0L rfl rfl (hval) rfl (by repeat (first | exact trivial | exact AV.le.refl _ | exact AV.le.dat | exact AV.le.nils | exact AV.le.nilsf | exact AV.le.any _ | exact ObLe.refl _ | exact ⟨rfl, rfl⟩ | refine AV.le.tup ?_ | refine AV.le.agg ?_ | exact li | exact lb | exact ls | exact lk | exact ld | exact lz | refine ⟨?_, ?_⟩)) rfl rfl) rfl rfl ?_
  repeat (first | refine wk hT rfl rfl ?_ | refine wd hT rfl rfl rfl ?_ | refine wz hT rfl ?_ | refine AWd_nil ?_ | refine AWk_nil ?_ | refine wh hT rfl rfl rfl rfl ?_ | refine wg hT rfl rfl rfl rfl rfl ?_ | refine AW_seq ?_ | refine AW_region ?_ | refine wx mixed ?_ | refine AW_block ?_ | refine AW_skip ?_ | refine AW_exit ?_ | refine AW_ret ?_)
  refine AW_condL rfl (fun h1 => ?_) (fun h1 => ?_)
  · simp at h1
  · refine AW_skip ?_
    refine AW_seq (AW_region ?_)
    refine AWk_op (allocBld_ok rfl) rfl ?_
    repeat (first | refine wk hT rfl rfl ?_ | refine wd hT rfl rfl rfl ?_ | refine wz hT rfl ?_ | refine AWd_nil ?_ | refine AWk_nil ?_ | refine wh hT rfl rfl rfl rfl ?_ | refine wg hT rfl rfl rfl rfl rfl ?_ | refine AW_seq ?_ | refine AW_region ?_ | refine wx mixed ?_ | refine AW_block ?_ | refine AW_skip ?_ | refine AW_exit ?_ | refine AW_ret ?_)
    refine AW_loopC (ι := Nat) (fun k => [(3, .ptr 1 0), (10, .d (.sl 6 (encRs rs))), (11, .d (.int .i64 (encRs rs).length)), (12, .d (.int .i64 k))])
      (fun k => [.row [.d (.sl 6 (encRs rs))], .opq (bldR ((rs.take k).flatMap ruleF))]) (fun k => k ≤ rs.length) (fun k => rs.length - k) 0
      (Nat.zero_le _) ⟨.refl _, .refl _, .refl _, .refl _, trivial⟩ (HLe.refl _) ?_
    intro k hk
    repeat (first | refine wk hT rfl rfl ?_ | refine wd hT rfl rfl rfl ?_ | refine wz hT rfl ?_ | refine AWd_nil ?_ | refine AWk_nil ?_ | refine wh hT rfl rfl rfl rfl ?_ | refine wg hT rfl rfl rfl rfl rfl ?_ | refine AW_seq ?_ | refine AW_region ?_ | refine wx mixed ?_ | refine AW_block ?_ | refine AW_skip ?_ | refine AW_exit ?_ | refine AW_ret ?_)
    refine AW_condL rfl (fun h2 => ?_) (fun h2 => ?_)
    · have hlt : k < rs.length := by rw [hlen] at h2; simpa using h2
      have hel : (encRs rs)[((k : Int)).toNat]? = some (encR rs[k]) := by simp [encRs, hlt]
      have hpl := pre_len hlt
      have htk : (rs.take (k + 1)).flatMap ruleF = (rs.take k).flatMap ruleF ++ ruleF rs[k] := by rw [List.take_succ_eq_append_getElem hlt, List.flatMap_append]; simp [List.flatMap_cons]
      have hsm := hs rs[k] (List.getElem_mem hlt)
      have her := herr rs[k] (List.getElem_mem hlt)
      have hwr : IntKind.i64.wrap ((k : Int) + 1) = ((k + 1 : Nat) : Int) := by rw [wrap_id (by omega)]; simp
      generalize rs[k] = r at hel hpl htk hsm her
      obtain ⟨v, al, ⟨ck, cc, cv, kids⟩⟩ := r
      obtain ⟨hv1, hv2, hv3⟩ := ruleErr_inv her
      have hn := Name_spec vds v (by omega) (by decide)
      generalize hpre : (rs.take k).flatMap ruleF = pre at *
      rw [ruleF] at hpl htk
      have hnl := vds_len v
      generalize nameOf vds v = nm at *
      generalize strsAV vds = sv at *
      have w1 := WriteString_spec pre nm (by simp only [List.length_append] at hpl; omega)
      repeat (first | refine wk hT rfl rfl ?_ | refine wd hT rfl rfl rfl ?_ | refine wz hT rfl ?_ | refine AWd_nil ?_ | refine AWk_nil ?_ | refine wh hT rfl rfl rfl rfl ?_ | refine wg hT rfl rfl rfl rfl rfl ?_ | refine AW_seq ?_ | refine AW_region ?_ | refine AW_block ?_ | refine AW_skip ?_ | refine AW_exit ?_ | refine AW_ret ?_)
      first | refine AWk_op (OpS_of_pure (indexAddr_ok hT rfl rfl rfl rfl (by omega) (hel))) rfl ?_ | refine AWd_op (OpS_of_pure (indexAddr_ok hT rfl rfl rfl rfl (by omega) (hel))) rfl rfl ?_
      repeat (first | refine wk hT rfl rfl ?_ | refine wd hT rfl rfl rfl ?_ | refine wz hT rfl ?_ | refine AWd_nil ?_ | refine AWk_nil ?_ | refine wh hT rfl rfl rfl rfl ?_ | refine wg hT rfl rfl rfl rfl rfl ?_ | refine AW_seq ?_ | refine AW_region ?_ | refine AW_block ?_ | refine AW_skip ?_ | refine AW_exit ?_ | refine AW_ret ?_)
      refine AW_drawG (fun i => bif Nat.beq i 2 then [2] else bif Nat.beq i 4 then [1] else []) (fun i => bif Nat.beq i 4 then [1] else []) mixed (by kernel_rfl) ?_
      refine AWg_op (os := []) (fun k hk1 hk2 => callS0 rfl rfl (hvd) rfl rfl rfl) rfl ?_
      repeat (first | refine AWg_load hT rfl rfl rfl rfl (by first | exact List.mem_cons_self | exact sm) rfl ?_ | refine AWg_pure hT (fun _ => rfl) rfl rfl (by first | exact True.intro | omega | exact sd) ?_ | refine AWg_store hT rfl rfl rfl (by first | exact List.mem_cons_self | exact sm) rfl ?_ | refine AWd_nil ?_)
      refine AWg_op (os := []) (fun k hk1 hk2 => callS0 rfl rfl (hn) rfl rfl rfl) rfl ?_
      refine AWg_op (v := .tup [.d (.int .i64 (nm.length : Int)), .ifc true]) (os := [.opq (bldR (pre ++ nm))]) (fun hx hk1 hk2 => callS1 rfl rfl w1 [1] (by decide) (by show [hx[1]?] = _; rw [hk2 1 List.mem_cons_self]; rfl) rfl rfl rfl rfl rfl rfl) rfl ?_
      repeat (first | refine AWg_load hT rfl rfl rfl rfl (by first | exact List.mem_cons_self | exact sm) rfl ?_ | refine AWg_pure hT (fun _ => rfl) rfl rfl (by first | exact True.intro | omega | exact sd) ?_ | refine AWg_store hT rfl rfl rfl (by first | exact List.mem_cons_self | exact sm) rfl ?_ | refine AWd_nil ?_)
      repeat (first | refine wk hT rfl rfl ?_ | refine wd hT rfl rfl rfl ?_ | refine wz hT rfl ?_ | refine AWd_nil ?_ | refine AWk_nil ?_ | refine wh hT rfl rfl rfl rfl ?_ | refine wg hT rfl rfl rfl rfl rfl ?_ | refine AW_seq ?_ | refine AW_region ?_ | refine wx mixed ?_ | refine AW_block ?_ | refine AW_skip ?_ | refine AW_exit ?_ | refine AW_ret ?_)
      cases al with
      | false =>
        have hwr8 := write_spec 8 (.mk ck cc cv kids) (hv3 rfl) hsm (by simp only [Bool.false_eq_true, if_false, List.length_append] at hpl; omega)
        simp only [Bool.false_eq_true, if_false] at hpl htk
        generalize writeF 8 (.mk ck cc cv kids) = tx at *
        simp only [List.length_append, List.length_cons, List.length_nil] at hpl
        have w2 := WriteString_spec (pre ++ nm) ([32, 105, 102, 32] ++ tx) (by simp only [List.length_append, List.length_cons, List.length_nil]; omega)
        have w3 := WriteString_spec (pre ++ nm ++ ([32, 105, 102, 32] ++ tx)) [59, 10] (by simp only [List.length_append, List.length_cons, List.length_nil]; omega)
        refine AW_condL rfl (fun h3 => ?_) (fun h3 => ?_)
        · repeat (first | refine wk hT rfl rfl ?_ | refine wd hT rfl rfl rfl ?_ | refine wz hT rfl ?_ | refine AWd_nil ?_ | refine AWk_nil ?_ | refine wh hT rfl rfl rfl rfl ?_ | refine wg hT rfl rfl rfl rfl rfl ?_ | refine AW_seq ?_ | refine AW_region ?_ | refine wx mixed ?_ | refine AW_block ?_ | refine AW_skip ?_ | refine AW_exit ?_ | refine AW_ret ?_)
          first | refine AWk_op (callS0 rfl rfl (hwr8) rfl rfl rfl) rfl ?_ | refine AWd_op (callS0 rfl rfl (hwr8) rfl rfl rfl) rfl rfl ?_ | refine AWk_op (callS0L rfl rfl (hwr8) rfl (by repeat (first | exact trivial | exact AV.le.refl _ | exact AV.le.dat | exact AV.le.nils | exact AV.le.nilsf | exact AV.le.any _ | exact ObLe.refl _ | exact ⟨rfl, rfl⟩ | refine AV.le.tup ?_ | refine AV.le.agg ?_ | exact li | exact lb | exact ls | exact lk | exact ld | exact lz | refine ⟨?_, ?_⟩)) rfl rfl) rfl ?_ | refine AWd_op (callS0L rfl rfl (hwr8) rfl (by repeat (first | exact trivial | exact AV.le.refl _ | exact AV.le.dat | exact AV.le.nils | exact AV.le.nilsf | exact AV.le.any _ | exact ObLe.refl _ | exact ⟨rfl, rfl⟩ | refine AV.le.tup ?_ | refine AV.le.agg ?_ | exact li | exact lb | exact ls | exact lk | exact ld | exact lz | refine ⟨?_, ?_⟩)) rfl rfl) rfl rfl ?_
          repeat (first | refine wk hT rfl rfl ?_ | refine wd hT rfl rfl rfl ?_ | refine wz hT rfl ?_ | refine AWd_nil ?_ | refine AWk_nil ?_ | refine wh hT rfl rfl rfl rfl ?_ | refine wg hT rfl rfl rfl rfl rfl ?_ | refine AW_seq ?_ | refine AW_region ?_ | refine wx mixed ?_ | refine AW_block ?_ | refine AW_skip ?_ | refine AW_exit ?_ | refine AW_ret ?_)
          refine AWk_op (callS1 rfl rfl (w2) [1] (by decide) rfl rfl rfl rfl rfl rfl rfl) rfl ?_
          repeat (first | refine wk hT rfl rfl ?_ | refine wd hT rfl rfl rfl ?_ | refine wz hT rfl ?_ | refine AWd_nil ?_ | refine AWk_nil ?_ | refine wh hT rfl rfl rfl rfl ?_ | refine wg hT rfl rfl rfl rfl rfl ?_ | refine AW_seq ?_ | refine AW_region ?_ | refine wx mixed ?_ | refine AW_block ?_ | refine AW_skip ?_ | refine AW_exit ?_ | refine AW_ret ?_)
          refine AWk_op (callS1 rfl rfl (w3) [1] (by decide) rfl rfl rfl rfl rfl rfl rfl) rfl ?_
          repeat (first | refine wk hT rfl rfl ?_ | refine wd hT rfl rfl rfl ?_ | refine wz hT rfl ?_ | refine AWd_nil ?_ | refine AWk_nil ?_ | refine wh hT rfl rfl rfl rfl ?_ | refine wg hT rfl rfl rfl rfl rfl ?_ | refine AW_seq ?_ | refine AW_region ?_ | refine wx mixed ?_ | refine AW_block ?_ | refine AW_skip ?_ | refine AW_exit ?_ | refine AW_ret ?_)
          refine ⟨k + 1, [_], by omega, by omega, ⟨.refl _, .refl _, .refl _, .int hwr, trivial⟩, ⟨ObLe.refl _, ?_, ObLe.refl _, trivial⟩, Env.below_mono hE (by simp), rfl, rfl⟩
          show bldR _ = bldR _
          rw [htk]; simp [List.append_assoc]
        · simp at h3
      | true =>
        simp only [if_true, List.nil_append] at hpl htk
        simp only [List.length_append, List.length_cons, List.length_nil] at hpl
        have w3 := WriteString_spec (pre ++ nm) [59, 10] (by simp only [List.length_append, List.length_cons, List.length_nil]; omega)
        refine AW_condL rfl (fun h3 => ?_) (fun h3 => ?_)
        · simp at h3
        · repeat (first | refine wk hT rfl rfl ?_ | refine wd hT rfl rfl rfl ?_ | refine wz hT rfl ?_ | refine AWd_nil ?_ | refine AWk_nil ?_ | refine wh hT rfl rfl rfl rfl ?_ | refine wg hT rfl rfl rfl rfl rfl ?_ | refine AW_seq ?_ | refine AW_region ?_ | refine wx mixed ?_ | refine AW_block ?_ | refine AW_skip ?_ | refine AW_exit ?_ | refine AW_ret ?_)
          refine AWk_op (callS1 rfl rfl (w3) [1] (by decide) rfl rfl rfl rfl rfl rfl rfl) rfl ?_
          repeat (first | refine wk hT rfl rfl ?_ | refine wd hT rfl rfl rfl ?_ | refine wz hT rfl ?_ | refine AWd_nil ?_ | refine AWk_nil ?_ | refine wh hT rfl rfl rfl rfl ?_ | refine wg hT rfl rfl rfl rfl rfl ?_ | refine AW_seq ?_ | refine AW_region ?_ | refine wx mixed ?_ | refine AW_block ?_ | refine AW_skip ?_ | refine AW_exit ?_ | refine AW_ret ?_)
          refine ⟨k + 1, [_], by omega, by omega, ⟨.refl _, .refl _, .refl _, .int hwr, trivial⟩, ⟨ObLe.refl _, ?_, ObLe.refl _, trivial⟩, Env.below_mono hE (by simp), rfl, rfl⟩
          show bldR _ = bldR _
          rw [htk]; simp [List.append_assoc]
    · have hge : k = rs.length := by rw [hlen] at h2; simp at h2; omega
      subst hge
      rw [List.take_length]
      repeat (first | refine wk hT rfl rfl ?_ | refine wd hT rfl rfl rfl ?_ | refine wz hT rfl ?_ | refine AWd_nil ?_ | refine AWk_nil ?_ | refine wh hT rfl rfl rfl rfl ?_ | refine wg hT rfl rfl rfl rfl rfl ?_ | refine AW_seq ?_ | refine AW_region ?_ | refine wx mixed ?_ | refine AW_block ?_ | refine AW_skip ?_ | refine AW_exit ?_ | refine AW_ret ?_)
      refine AWk_op (callS1 rfl rfl (hst) [1] (by decide) rfl rfl rfl rfl rfl rfl rfl) rfl ?_
      repeat (first | refine wk hT rfl rfl ?_ | refine wd hT rfl rfl rfl ?_ | refine wz hT rfl ?_ | refine AWd_nil ?_ | refine AWk_nil ?_ | refine wh hT rfl rfl rfl rfl ?_ | refine wg hT rfl rfl rfl rfl rfl ?_ | refine AW_seq ?_ | refine AW_region ?_ | refine wx mixed ?_ | refine AW_block ?_ | refine AW_skip ?_ | refine AW_exit ?_ | refine AW_ret ?_)
      first | exact rx ⟨rfl, rfl⟩ | exact rxN ⟨rfl, rfl⟩ | (refine rq ⟨rfl, rfl⟩ rfl ?_; repeat (first | exact trivial | exact AV.le.refl _ | exact AV.le.dat | exact AV.le.nils | exact AV.le.nilsf | exact AV.le.any _ | exact ObLe.refl _ | exact ⟨rfl, rfl⟩ | refine AV.le.tup ?_ | refine AV.le.agg ?_ | exact li | exact lb | exact ls | exact lk | exact ld | exact lz | refine ⟨?_, ?_⟩)) | (refine rqN ⟨rfl, rfl⟩ rfl ?_; repeat (first | exact trivial | exact AV.le.refl _ | exact AV.le.dat | exact AV.le.nils | exact AV.le.nilsf | exact AV.le.any _ | exact ObLe.refl _ | exact ⟨rfl, rfl⟩ | refine AV.le.tup ?_ | refine AV.le.agg ?_ | exact li | exact lb | exact ls | exact lk | exact ld | exact lz | refine ⟨?_, ?_⟩))
end Tdoc
/- The law PolicyBack: policies out of numbers are valid, and their texts parse back. -/
set_option linter.unusedVariables false
set_option linter.unusedSimpArgs false
namespace Tdoc
open Go Go.Proofs

theorem ruleErr_always (v : Int) (h : 1 ≤ v ∧ v ≤ 3) : ruleErr (.mk v true (.mk 0 0 0 [])) = 0 := by
  unfold ruleErr
  simp
  omega
theorem ruleErr_cond {v : Int} {c : Cond} (h : 1 ≤ v ∧ v ≤ 3) (hc : validC 8 c = true) : ruleErr (.mk v false c) = 0 := by
  obtain ⟨k, ch, w, kids⟩ := c
  unfold ruleErr
  simp [hc]
  omega
theorem ruleM_ok {l : List Int} {a : Nat} (h : a ≤ l.length) : ruleErr (ruleM l a).1 = 0 ∧ smallC (condR (ruleM l a).1) := by
  have hr := nextV_range (l := l) (a := a) (n := 3) (by omega)
  have ha := nextA_le (nextA_le h)
  unfold ruleM
  split
  · exact ⟨ruleErr_always _ (by omega), by simp [condR, smallC, smallCs]⟩
  · have hc := condM_ok l 2 0 _ ha
    exact ⟨ruleErr_cond (by omega) (validC_le (by omega) hc.2.1), hc.2.2.1⟩
theorem polL_ok {l : List Int} : ∀ (m : Nat) (acc : List Rule) (a : Nat), a ≤ l.length → (∀ r, r ∈ acc → ruleErr r = 0 ∧ smallC (condR r)) → ∀ r, r ∈ polL l m acc a → ruleErr r = 0 ∧ smallC (condR r)
  | 0, acc, a, _, h => h
  | m + 1, acc, a, ha, h => by
    rw [polL]
    refine polL_ok m _ _ (ruleM_le ha) fun r hr => ?_
    rcases List.mem_append.1 hr with hr | hr
    · exact h r hr
    · simp at hr; subst hr; exact ruleM_ok ha
theorem polM_ok (l : List Int) : ∀ r, r ∈ polM l → ruleErr r = 0 ∧ smallC (condR r) := polL_ok _ _ _ (nextA_le (by omega)) (fun r hr => by cases hr)
theorem firstErr_of : ∀ {rs : List Rule}, (∀ r, r ∈ rs → ruleErr r = 0) → firstErr rs = 0
  | [], _ => rfl
  | r :: rs, h => by rw [firstErr, if_pos (h r (by simp))]; exact firstErr_of fun x hx => h x (by simp [hx])
theorem polM_valid (l : List Int) : validPol (polM l) = 0 := by
  have := polM_length l
  unfold validPol
  rw [if_neg (by omega)]
  exact firstErr_of fun r hr => (polM_ok l r hr).1
theorem polM_ne (l : List Int) : polM l ≠ [] := by
  intro h
  have h1 := polL_length l (nextV l 0 5 + 1).toNat [] (nextA l 0)
  have hr := nextV_range (l := l) (a := 0) (n := 5) (by omega)
  rw [show polL l (nextV l 0 5 + 1).toNat [] (nextA l 0) = polM l from rfl, h] at h1
  simp at h1
  omega

set_option maxHeartbeats 8000000 in
set_option maxRecDepth 100000 in
theorem policyBack_spec (l : List Int) (_ : ∀ n, n ∈ l → (Lit.int IntKind.i64 n).wf = true) (_ : l.length ≤ maxLen) :
    Spec Try.prog 3 [.d (.sl 1 (numsD .i64 l))] [] (fun r h' => r = .d (.bool true) ∧ h' = []) := by
  have hlt := Light_spec l
  have haw := awake_spec
  refine Spec_of_body hT Try.func3 rfl rfl rfl rfl ?_
  intro E hE
  repeat (first | refine wk hT rfl rfl ?_ | refine wd hT rfl rfl rfl ?_ | refine wz hT rfl ?_ | refine AWd_nil ?_ | refine AWk_nil ?_ | refine wh hT rfl rfl rfl rfl ?_ | refine wg hT rfl rfl rfl rfl rfl ?_ | refine AW_seq ?_ | refine AW_region ?_ | refine wx mixed ?_ | refine AW_block ?_ | refine AW_skip ?_ | refine AW_exit ?_ | refine AW_ret ?_)
  first | refine AWk_op (callS0 rfl rfl (hlt) rfl rfl rfl) rfl ?_ | refine AWd_op (callS0 rfl rfl (hlt) rfl rfl rfl) rfl rfl ?_ | refine AWk_op (callS0L rfl rfl (hlt) rfl (by repeat (first | exact trivial | exact AV.le.refl _ | exact AV.le.dat | exact AV.le.nils | exact AV.le.nilsf | exact AV.le.any _ | exact ObLe.refl _ | exact ⟨rfl, rfl⟩ | refine AV.le.tup ?_ | refine AV.le.agg ?_ | exact li | exact lb | exact ls | exact lk | exact ld | exact lz | refine ⟨?_, ?_⟩)) rfl rfl) rfl ?_ | refine AWd_op (callS0L rfl rfl (hlt) rfl (by repeat (first | exact trivial | exact AV.le.refl _ | exact AV.le.dat | exact AV.le.nils | exact AV.le.nilsf | exact AV.le.any _ | exact ObLe.refl _ | exact ⟨rfl, rfl⟩ | refine AV.le.tup ?_ | refine AV.le.agg ?_ | exact li | exact lb | exact ls | exact lk | exact ld | exact lz | refine ⟨?_, ?_⟩)) rfl rfl) rfl rfl ?_
  repeat (first | refine wk hT rfl rfl ?_ | refine wd hT rfl rfl rfl ?_ | refine wz hT rfl ?_ | refine AWd_nil ?_ | refine AWk_nil ?_ | refine wh hT rfl rfl rfl rfl ?_ | refine wg hT rfl rfl rfl rfl rfl ?_ | refine AW_seq ?_ | refine AW_region ?_ | refine wx mixed ?_ | refine AW_block ?_ | refine AW_skip ?_ | refine AW_exit ?_ | refine AW_ret ?_)
  refine AW_condL rfl (fun h1 => ?_) (fun h1 => ?_)
  · repeat (first | refine wk hT rfl rfl ?_ | refine wd hT rfl rfl rfl ?_ | refine wz hT rfl ?_ | refine AWd_nil ?_ | refine AWk_nil ?_ | refine wh hT rfl rfl rfl rfl ?_ | refine wg hT rfl rfl rfl rfl rfl ?_ | refine AW_seq ?_ | refine AW_region ?_ | refine wx mixed ?_ | refine AW_block ?_ | refine AW_skip ?_ | refine AW_exit ?_ | refine AW_ret ?_)
    first | refine AWk_op (callS0 rfl rfl (haw) rfl rfl rfl) rfl ?_ | refine AWd_op (callS0 rfl rfl (haw) rfl rfl rfl) rfl rfl ?_ | refine AWk_op (callS0L rfl rfl (haw) rfl (by repeat (first | exact trivial | exact AV.le.refl _ | exact AV.le.dat | exact AV.le.nils | exact AV.le.nilsf | exact AV.le.any _ | exact ObLe.refl _ | exact ⟨rfl, rfl⟩ | refine AV.le.tup ?_ | refine AV.le.agg ?_ | exact li | exact lb | exact ls | exact lk | exact ld | exact lz | refine ⟨?_, ?_⟩)) rfl rfl) rfl ?_ | refine AWd_op (callS0L rfl rfl (haw) rfl (by repeat (first | exact trivial | exact AV.le.refl _ | exact AV.le.dat | exact AV.le.nils | exact AV.le.nilsf | exact AV.le.any _ | exact ObLe.refl _ | exact ⟨rfl, rfl⟩ | refine AV.le.tup ?_ | refine AV.le.agg ?_ | exact li | exact lb | exact ls | exact lk | exact ld | exact lz | refine ⟨?_, ?_⟩)) rfl rfl) rfl rfl ?_
    repeat (first | refine wk hT rfl rfl ?_ | refine wd hT rfl rfl rfl ?_ | refine wz hT rfl ?_ | refine AWd_nil ?_ | refine AWk_nil ?_ | refine wh hT rfl rfl rfl rfl ?_ | refine wg hT rfl rfl rfl rfl rfl ?_ | refine AW_seq ?_ | refine AW_region ?_ | refine wx mixed ?_ | refine AW_block ?_ | refine AW_skip ?_ | refine AW_exit ?_ | refine AW_ret ?_)
    first | exact rx ⟨rfl, rfl⟩ | exact rxN ⟨rfl, rfl⟩ | (refine rq ⟨rfl, rfl⟩ rfl ?_; repeat (first | exact trivial | exact AV.le.refl _ | exact AV.le.dat | exact AV.le.nils | exact AV.le.nilsf | exact AV.le.any _ | exact ObLe.refl _ | exact ⟨rfl, rfl⟩ | refine AV.le.tup ?_ | refine AV.le.agg ?_ | exact li | exact lb | exact ls | exact lk | exact ld | exact lz | refine ⟨?_, ?_⟩)) | (refine rqN ⟨rfl, rfl⟩ rfl ?_; repeat (first | exact trivial | exact AV.le.refl _ | exact AV.le.dat | exact AV.le.nils | exact AV.le.nilsf | exact AV.le.any _ | exact ObLe.refl _ | exact ⟨rfl, rfl⟩ | refine AV.le.tup ?_ | refine AV.le.agg ?_ | exact li | exact lb | exact ls | exact lk | exact ld | exact lz | refine ⟨?_, ?_⟩))
  · have h1' : l.length ≤ 80 := by simpa using h1
    have hp := Policy_spec l (by omega)
    have hlen := format_len l
    have hval := polM_valid l
    have hok := polM_ok l
    have hf := Format_spec (polM l) hval (polM_ne l) (fun r hr => (hok r hr).2) (by omega)
    have hpar := Parse_spec (formatF (polM l)) (by omega)
    rw [back_parse (polM l) hval (by omega)] at hpar
    have hvs := Valid_spec (polM l) (fun r hr => (hok r hr).2)
    rw [hval] at hvs
    have hpl := polM_length l
    have hsame := Same_spec (polM l) (by omega) (fun r hr => (hok r hr).2)
    generalize formatF (polM l) = tx at *
    generalize polM l = rs at *
    simp only at hpar
    repeat (first | refine wk hT rfl rfl ?_ | refine wd hT rfl rfl rfl ?_ | refine wz hT rfl ?_ | refine AWd_nil ?_ | refine AWk_nil ?_ | refine wh hT rfl rfl rfl rfl ?_ | refine wg hT rfl rfl rfl rfl rfl ?_ | refine AW_seq ?_ | refine AW_region ?_ | refine wx mixed ?_ | refine AW_block ?_ | refine AW_skip ?_ | refine AW_exit ?_ | refine AW_ret ?_)
    first | refine AWk_op (callS0 rfl rfl (hp) rfl rfl rfl) rfl ?_ | refine AWd_op (callS0 rfl rfl (hp) rfl rfl rfl) rfl rfl ?_ | refine AWk_op (callS0L rfl rfl (hp) rfl (by repeat (first | exact trivial | exact AV.le.refl _ | exact AV.le.dat | exact AV.le.nils | exact AV.le.nilsf | exact AV.le.any _ | exact ObLe.refl _ | exact ⟨rfl, rfl⟩ | refine AV.le.tup ?_ | refine AV.le.agg ?_ | exact li | exact lb | exact ls | exact lk | exact ld | exact lz | refine ⟨?_, ?_⟩)) rfl rfl) rfl ?_ | refine AWd_op (callS0L rfl rfl (hp) rfl (by repeat (first | exact trivial | exact AV.le.refl _ | exact AV.le.dat | exact AV.le.nils | exact AV.le.nilsf | exact AV.le.any _ | exact ObLe.refl _ | exact ⟨rfl, rfl⟩ | refine AV.le.tup ?_ | refine AV.le.agg ?_ | exact li | exact lb | exact ls | exact lk | exact ld | exact lz | refine ⟨?_, ?_⟩)) rfl rfl) rfl rfl ?_
    repeat (first | refine wk hT rfl rfl ?_ | refine wd hT rfl rfl rfl ?_ | refine wz hT rfl ?_ | refine AWd_nil ?_ | refine AWk_nil ?_ | refine wh hT rfl rfl rfl rfl ?_ | refine wg hT rfl rfl rfl rfl rfl ?_ | refine AW_seq ?_ | refine AW_region ?_ | refine wx mixed ?_ | refine AW_block ?_ | refine AW_skip ?_ | refine AW_exit ?_ | refine AW_ret ?_)
    first | refine AWk_op (callS0 rfl rfl (hf) rfl rfl rfl) rfl ?_ | refine AWd_op (callS0 rfl rfl (hf) rfl rfl rfl) rfl rfl ?_ | refine AWk_op (callS0L rfl rfl (hf) rfl (by repeat (first | exact trivial | exact AV.le.refl _ | exact AV.le.dat | exact AV.le.nils | exact AV.le.nilsf | exact AV.le.any _ | exact ObLe.refl _ | exact ⟨rfl, rfl⟩ | refine AV.le.tup ?_ | refine AV.le.agg ?_ | exact li | exact lb | exact ls | exact lk | exact ld | exact lz | refine ⟨?_, ?_⟩)) rfl rfl) rfl ?_ | refine AWd_op (callS0L rfl rfl (hf) rfl (by repeat (first | exact trivial | exact AV.le.refl _ | exact AV.le.dat | exact AV.le.nils | exact AV.le.nilsf | exact AV.le.any _ | exact ObLe.refl _ | exact ⟨rfl, rfl⟩ | refine AV.le.tup ?_ | refine AV.le.agg ?_ | exact li | exact lb | exact ls | exact lk | exact ld | exact lz | refine ⟨?_, ?_⟩)) rfl rfl) rfl rfl ?_
    repeat (first | refine wk hT rfl rfl ?_ | refine wd hT rfl rfl rfl ?_ | refine wz hT rfl ?_ | refine AWd_nil ?_ | refine AWk_nil ?_ | refine wh hT rfl rfl rfl rfl ?_ | refine wg hT rfl rfl rfl rfl rfl ?_ | refine AW_seq ?_ | refine AW_region ?_ | refine wx mixed ?_ | refine AW_block ?_ | refine AW_skip ?_ | refine AW_exit ?_ | refine AW_ret ?_)
    first | refine AWk_op (callS0 rfl rfl (hpar) rfl rfl rfl) rfl ?_ | refine AWd_op (callS0 rfl rfl (hpar) rfl rfl rfl) rfl rfl ?_ | refine AWk_op (callS0L rfl rfl (hpar) rfl (by repeat (first | exact trivial | exact AV.le.refl _ | exact AV.le.dat | exact AV.le.nils | exact AV.le.nilsf | exact AV.le.any _ | exact ObLe.refl _ | exact ⟨rfl, rfl⟩ | refine AV.le.tup ?_ | refine AV.le.agg ?_ | exact li | exact lb | exact ls | exact lk | exact ld | exact lz | refine ⟨?_, ?_⟩)) rfl rfl) rfl ?_ | refine AWd_op (callS0L rfl rfl (hpar) rfl (by repeat (first | exact trivial | exact AV.le.refl _ | exact AV.le.dat | exact AV.le.nils | exact AV.le.nilsf | exact AV.le.any _ | exact ObLe.refl _ | exact ⟨rfl, rfl⟩ | refine AV.le.tup ?_ | refine AV.le.agg ?_ | exact li | exact lb | exact ls | exact lk | exact ld | exact lz | refine ⟨?_, ?_⟩)) rfl rfl) rfl rfl ?_
    repeat (first | refine wk hT rfl rfl ?_ | refine wd hT rfl rfl rfl ?_ | refine wz hT rfl ?_ | refine AWd_nil ?_ | refine AWk_nil ?_ | refine wh hT rfl rfl rfl rfl ?_ | refine wg hT rfl rfl rfl rfl rfl ?_ | refine AW_seq ?_ | refine AW_region ?_ | refine wx mixed ?_ | refine AW_block ?_ | refine AW_skip ?_ | refine AW_exit ?_ | refine AW_ret ?_)
    first | refine AWk_op (callS0 rfl rfl (haw) rfl rfl rfl) rfl ?_ | refine AWd_op (callS0 rfl rfl (haw) rfl rfl rfl) rfl rfl ?_ | refine AWk_op (callS0L rfl rfl (haw) rfl (by repeat (first | exact trivial | exact AV.le.refl _ | exact AV.le.dat | exact AV.le.nils | exact AV.le.nilsf | exact AV.le.any _ | exact ObLe.refl _ | exact ⟨rfl, rfl⟩ | refine AV.le.tup ?_ | refine AV.le.agg ?_ | exact li | exact lb | exact ls | exact lk | exact ld | exact lz | refine ⟨?_, ?_⟩)) rfl rfl) rfl ?_ | refine AWd_op (callS0L rfl rfl (haw) rfl (by repeat (first | exact trivial | exact AV.le.refl _ | exact AV.le.dat | exact AV.le.nils | exact AV.le.nilsf | exact AV.le.any _ | exact ObLe.refl _ | exact ⟨rfl, rfl⟩ | refine AV.le.tup ?_ | refine AV.le.agg ?_ | exact li | exact lb | exact ls | exact lk | exact ld | exact lz | refine ⟨?_, ?_⟩)) rfl rfl) rfl rfl ?_
    repeat (first | refine wk hT rfl rfl ?_ | refine wd hT rfl rfl rfl ?_ | refine wz hT rfl ?_ | refine AWd_nil ?_ | refine AWk_nil ?_ | refine wh hT rfl rfl rfl rfl ?_ | refine wg hT rfl rfl rfl rfl rfl ?_ | refine AW_seq ?_ | refine AW_region ?_ | refine wx mixed ?_ | refine AW_block ?_ | refine AW_skip ?_ | refine AW_exit ?_ | refine AW_ret ?_)
    first | refine AWk_gop rfl rfl rfl (fun hg => ⟨(sg (C := True) hg).1, callS0 rfl rfl (hvs) rfl rfl rfl⟩) ?_ | refine AWd_gop rfl rfl rfl rfl (fun hg => ⟨(sg (C := True) hg).1, callS0 rfl rfl (hvs) rfl rfl rfl⟩) ?_
    repeat (first | refine wk hT rfl rfl ?_ | refine wd hT rfl rfl rfl ?_ | refine wz hT rfl ?_ | refine AWd_nil ?_ | refine AWk_nil ?_ | refine wh hT rfl rfl rfl rfl ?_ | refine wg hT rfl rfl rfl rfl rfl ?_ | refine AW_seq ?_ | refine AW_region ?_ | refine wx mixed ?_ | refine AW_block ?_ | refine AW_skip ?_ | refine AW_exit ?_ | refine AW_ret ?_)
    first | refine AWk_gop rfl rfl rfl (fun hg => ⟨(sg (C := True) hg).1, callS0 rfl rfl (hsame) rfl rfl rfl⟩) ?_ | refine AWd_gop rfl rfl rfl rfl (fun hg => ⟨(sg (C := True) hg).1, callS0 rfl rfl (hsame) rfl rfl rfl⟩) ?_
    repeat (first | refine wk hT rfl rfl ?_ | refine wd hT rfl rfl rfl ?_ | refine wz hT rfl ?_ | refine AWd_nil ?_ | refine AWk_nil ?_ | refine wh hT rfl rfl rfl rfl ?_ | refine wg hT rfl rfl rfl rfl rfl ?_ | refine AW_seq ?_ | refine AW_region ?_ | refine wx mixed ?_ | refine AW_block ?_ | refine AW_skip ?_ | refine AW_exit ?_ | refine AW_ret ?_)
    first | refine AWk_gop rfl rfl rfl (fun hg => ⟨(sg (C := True) hg).1, callS0 rfl rfl (hf) rfl rfl rfl⟩) ?_ | refine AWd_gop rfl rfl rfl rfl (fun hg => ⟨(sg (C := True) hg).1, callS0 rfl rfl (hf) rfl rfl rfl⟩) ?_
    repeat (first | refine wk hT rfl rfl ?_ | refine wd hT rfl rfl rfl ?_ | refine wz hT rfl ?_ | refine AWd_nil ?_ | refine AWk_nil ?_ | refine wh hT rfl rfl rfl rfl ?_ | refine wg hT rfl rfl rfl rfl rfl ?_ | refine AW_seq ?_ | refine AW_region ?_ | refine wx mixed ?_ | refine AW_block ?_ | refine AW_skip ?_ | refine AW_exit ?_ | refine AW_ret ?_)
    first | exact rx ⟨rfl, rfl⟩ | exact rxN ⟨rfl, rfl⟩ | (refine rq ⟨rfl, rfl⟩ rfl ?_; repeat (first | exact trivial | exact AV.le.refl _ | exact AV.le.dat | exact AV.le.nils | exact AV.le.nilsf | exact AV.le.any _ | exact ObLe.refl _ | exact ⟨rfl, rfl⟩ | refine AV.le.tup ?_ | refine AV.le.agg ?_ | exact li | exact lb | exact ls | exact lk | exact ld | exact lz | refine ⟨?_, ?_⟩)) | (refine rqN ⟨rfl, rfl⟩ rfl ?_; repeat (first | exact trivial | exact AV.le.refl _ | exact AV.le.dat | exact AV.le.nils | exact AV.le.nilsf | exact AV.le.any _ | exact ObLe.refl _ | exact ⟨rfl, rfl⟩ | refine AV.le.tup ?_ | refine AV.le.agg ?_ | exact li | exact lb | exact ls | exact lk | exact ld | exact lz | refine ⟨?_, ?_⟩))
end Tdoc
