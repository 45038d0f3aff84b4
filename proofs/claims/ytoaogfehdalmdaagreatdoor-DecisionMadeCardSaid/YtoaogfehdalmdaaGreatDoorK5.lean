/- Plain: what is certain about a condition stays so with further results, and with all results it is certain. -/
import Derived.Test.YtoaogfehdalmdaaGreatDoorK4
import Derived.Test.YtoaogfehdalmdaaGreatDoorK2
import Derived.Test.YtoaogfehdalmdaaGreatDoorK3
set_option linter.unusedVariables false
set_option linter.unusedSimpArgs false
namespace Tdoc
open Go Go.Proofs

def SubR (s t : List Res) : Prop := ∀ ch v, valOf ch s = some v → valOf ch t = some v
def FullR (t : List Res) : Prop := ∀ ch, 1 ≤ ch → ch ≤ 13 → ∃ v, valOf ch t = some v

theorem foldF_eq {one : Int} (h1 : one ≠ 0) : ∀ (r : List Int) (all : Int), foldF one all r = if one ∈ r then one else if 0 ∈ r then 0 else all
  | [], all => by simp [foldF]
  | f :: r, all => by
    rw [foldF]
    by_cases hf : f = one
    · simp [hf]
    · rw [if_neg hf, foldF_eq h1 r]
      have h2 : one ≠ f := fun h => hf h.symm
      by_cases hr : one ∈ r
      · simp [hr]
      · simp only [hr, if_false, List.mem_cons, h2, or_false]
        by_cases h0 : (0 : Int) ∈ r
        · simp [h0]
        · simp only [h0, if_false, or_false]
          by_cases hf0 : f = 0
          · simp [hf0]
          · rw [if_neg hf0, if_neg (fun h => hf0 h.symm)]

theorem validC_inv {d : Nat} {k c v : Int} {kids : List Cond} (h : validC (d + 1) (.mk k c v kids) = true) :
    (k = 1 ∧ 1 ≤ c ∧ c ≤ 13) ∨ (k = 2 ∧ ∃ x, kids = [x] ∧ validC d x = true) ∨ ((k = 3 ∨ k = 4) ∧ ∀ x, x ∈ kids → validC d x = true) := by
  rw [validC] at h
  split at h
  · rename_i hk
    simp only [Bool.and_eq_true, decide_eq_true_eq] at h
    exact .inl ⟨hk, h.1.1.1.1, h.1.1.1.2⟩
  · split at h
    · cases h
    · split at h
      · rename_i hk
        simp only [Bool.and_eq_true, decide_eq_true_eq, Bool.not_eq_true'] at h
        obtain ⟨h1, h2⟩ := h
        match kids, h1 with
        | [x], _ => exact .inr (.inl ⟨hk, x, rfl, by simpa using h2⟩)
      · split at h
        · rename_i hk
          simp only [Bool.and_eq_true, Bool.not_eq_true', List.any_eq_false] at h
          exact .inr (.inr ⟨hk, fun x hx => by simpa using h.2 x hx⟩)
        · cases h

theorem validC_mono : ∀ (d : Nat) (c : Cond), validC d c = true → validC (d + 1) c = true
  | 0, c, h => by simp [validC] at h
  | d + 1, .mk k c v kids, h => by
    have hany : ∀ (hk : (kids.any fun x => !validC d x) = false), (kids.any fun x => !validC (d + 1) x) = false := by
      intro hk
      rw [List.any_eq_false] at hk ⊢
      intro x hx
      have := hk x hx
      simp only [Bool.not_eq_true', Bool.not_eq_false] at this
      simp [validC_mono d x this]
    rw [validC] at h ⊢
    split at h
    · rename_i hk; rw [if_pos hk]; exact h
    · rename_i hk
      rw [if_neg hk]
      split at h
      · cases h
      · rename_i hk2
        rw [if_neg hk2]
        split at h
        · rename_i hk3
          rw [if_pos hk3]
          simp only [Bool.and_eq_true, Bool.not_eq_true'] at h ⊢
          exact ⟨h.1, hany h.2⟩
        · rename_i hk3
          rw [if_neg hk3]
          split at h
          · rename_i hk4
            rw [if_pos hk4]
            simp only [Bool.and_eq_true, Bool.not_eq_true'] at h ⊢
            exact ⟨h.1, hany h.2⟩
          · cases h

theorem validC_le {d e : Nat} {c : Cond} (hde : d ≤ e) (h : validC d c = true) : validC e c = true := by
  induction hde with
  | refl => exact h
  | step _ ih => exact validC_mono _ _ ih

theorem notF_cases {f : Int} (h : 0 ≤ f ∧ f ≤ 2) : Int.tmod (3 - f) 3 = if f = 0 then 0 else 3 - f := by
  rw [Int.tmod_eq_emod_of_nonneg (by omega)]
  split <;> omega

theorem forced_sub {s t : List Res} (hst : SubR s t) : ∀ (d : Nat) (c : Cond), validC d c = true → forcedF s d c ≠ 0 → forcedF t d c = forcedF s d c
  | 0, c, hv, h => by simp [validC] at hv
  | d + 1, .mk k c v kids, hv, h => by
    rw [forcedF] at h ⊢
    rw [forcedF]
    rcases validC_inv hv with ⟨hk, h1, h2⟩ | ⟨hk, x, rfl, hx⟩ | ⟨hk, hx⟩
    · simp only [if_pos hk] at h ⊢
      cases hvs : valOf c s with
      | none => rw [hvs] at h; exact absurd rfl h
      | some w => rw [hst c w hvs]
    · have n1 : ¬ k = 1 := by omega
      simp only [if_neg n1, if_pos hk, List.map_cons, List.map_nil, notF] at h ⊢
      have hr := forcedF_range s d x
      rw [notF_cases hr] at h
      have hne : forcedF s d x ≠ 0 := fun h0 => by rw [if_pos h0] at h; exact h rfl
      rw [forced_sub hst d x hx hne]
    · have n1 : ¬ k = 1 := by omega
      have n2 : ¬ k = 2 := by omega
      simp only [if_neg n1, if_neg n2] at h ⊢
      generalize hone : (if k = 4 then (1 : Int) else 2) = one at h ⊢
      generalize (if k = 4 then (2 : Int) else 1) = all at h ⊢
      have hone0 : one ≠ 0 := by rw [← hone]; split <;> omega
      rw [foldF_eq hone0] at h
      rw [foldF_eq hone0, foldF_eq hone0]
      by_cases h1 : one ∈ kids.map fun x => forcedF s d x
      · have h2 : one ∈ kids.map fun x => forcedF t d x := by
          obtain ⟨x, hxm, hxe⟩ := List.mem_map.1 h1
          exact List.mem_map.2 ⟨x, hxm, by rw [forced_sub hst d x (hx x hxm) (by rw [hxe]; exact hone0), hxe]⟩
        rw [if_pos h1, if_pos h2]
      · rw [if_neg h1] at h
        by_cases h0 : (0 : Int) ∈ kids.map fun x => forcedF s d x
        · rw [if_pos h0] at h; exact absurd rfl h
        · have he : (kids.map fun x => forcedF t d x) = kids.map fun x => forcedF s d x :=
            List.map_congr_left fun x hxm => forced_sub hst d x (hx x hxm) fun h00 => h0 (List.mem_map.2 ⟨x, hxm, h00⟩)
          rw [he]

theorem forced_full {t : List Res} (hf : FullR t) : ∀ (d : Nat) (c : Cond), validC d c = true → forcedF t d c ≠ 0 ∧ (forcedF t d c = 1 ↔ holdsF t d c = true)
  | 0, c, hv => by simp [validC] at hv
  | d + 1, .mk k c v kids, hv => by
    rw [forcedF, holdsF]
    rcases validC_inv hv with ⟨hk, h1, h2⟩ | ⟨hk, x, rfl, hx⟩ | ⟨hk, hx⟩
    · simp only [if_pos hk]
      obtain ⟨w, hw⟩ := hf c h1 h2
      rw [hw]
      simp only [isF, isH]
      by_cases hwv : w = v
      · simp [hwv]
      · simp [hwv]
    · have n1 : ¬ k = 1 := by omega
      obtain ⟨i1, i2⟩ := forced_full hf d x hx
      have hr := forcedF_range t d x
      simp only [if_neg n1, if_pos hk, List.map_cons, List.map_nil, notF, List.headD_cons]
      rw [notF_cases hr, if_neg i1]
      refine ⟨by omega, ?_⟩
      cases hh : holdsF t d x with
      | true => rw [hh] at i2; have := i2.2 rfl; simp; omega
      | false => rw [hh] at i2; have : ¬ forcedF t d x = 1 := fun h => by have := i2.1 h; cases this
                 simp; omega
    · have n1 : ¬ k = 1 := by omega
      have n2 : ¬ k = 2 := by omega
      simp only [if_neg n1, if_neg n2]
      have ih := fun x hxm => forced_full hf d x (hx x hxm)
      have h0 : ¬ (0 : Int) ∈ kids.map fun x => forcedF t d x := fun h => by
        obtain ⟨x, hxm, hxe⟩ := List.mem_map.1 h
        exact (ih x hxm).1 hxe
      rcases hk with hk | hk
      · subst hk
        simp only [show ¬ (3 : Int) = 4 by omega, if_false, if_true]
        rw [foldF_eq (by omega), if_neg h0]
        by_cases h2 : (2 : Int) ∈ kids.map fun x => forcedF t d x
        · obtain ⟨x, hxm, hxe⟩ := List.mem_map.1 h2
          have hh : holdsF t d x = false := by
            cases hh : holdsF t d x with
            | false => rfl
            | true => have := (ih x hxm).2.2 hh; omega
          have : (kids.any fun x => !holdsF t d x) = true := List.any_eq_true.2 ⟨x, hxm, by rw [hh]; rfl⟩
          rw [if_pos h2, this]; simp
        · have : (kids.any fun x => !holdsF t d x) = false := by
            rw [List.any_eq_false]
            intro x hxm
            have hh := ih x hxm
            have hr := forcedF_range t d x
            have hne : forcedF t d x ≠ 2 := fun h => h2 (List.mem_map.2 ⟨x, hxm, h⟩)
            have := hh.2.1 (by have := hh.1; omega)
            simp [this]
          rw [if_neg h2, this]; simp
      · subst hk
        simp only [show ¬ (4 : Int) = 3 by omega, if_false, if_true]
        rw [foldF_eq (by omega), if_neg h0]
        by_cases h2 : (1 : Int) ∈ kids.map fun x => forcedF t d x
        · obtain ⟨x, hxm, hxe⟩ := List.mem_map.1 h2
          have : (kids.any fun x => holdsF t d x) = true := List.any_eq_true.2 ⟨x, hxm, (ih x hxm).2.1 hxe⟩
          rw [if_pos h2, this]; simp
        · have : (kids.any fun x => holdsF t d x) = false := by
            rw [List.any_eq_false]
            intro x hxm hx1
            exact h2 (List.mem_map.2 ⟨x, hxm, (ih x hxm).2.2 hx1⟩)
          rw [if_neg h2, this]; simp

/-! results that are made -/
theorem valOf_append {ch : Int} {s t : List Res} {v : Int} (h : valOf ch s = some v) : valOf ch (s ++ t) = some v := by
  unfold valOf at h ⊢
  rw [List.find?_append]
  simp only [Option.map_eq_some_iff] at h
  obtain ⟨r, hr, rfl⟩ := h
  simp [hr]

theorem SubR.take (s : List Res) (i : Nat) : SubR (s.take i) s := fun ch v h => by
  have := valOf_append (t := s.drop i) h
  rwa [List.take_append_drop] at this

theorem resM_valOf (l : List Int) : ∀ (k j : Nat), j < k → valOf (((j + 1 : Nat) : Int)) (resM l k) = some (1 + nextV l (min j l.length) 4)
  | 0, j, h => by omega
  | k + 1, j, h => by
    rw [resM_succ]
    by_cases hj : j < k
    · exact valOf_append (resM_valOf l k j hj)
    · have hjk : j = k := by omega
      subst hjk
      have hnone : (resM l j).find? (fun r => r.1 == ((j + 1 : Nat) : Int)) = none := by
        rw [List.find?_eq_none]
        intro r hr
        simp only [resM, List.mem_map, List.mem_range] at hr
        obtain ⟨i, hi, rfl⟩ := hr
        simp; omega
      unfold valOf
      rw [List.find?_append, hnone]
      simp

theorem resM_mem {l : List Int} {k : Nat} {r : Res} (h : r ∈ resM l k) : valOf r.1 (resM l k) = some r.2 := by
  simp only [resM, List.mem_map, List.mem_range] at h
  obtain ⟨i, hi, rfl⟩ := h
  exact resM_valOf l k i hi

theorem resM_full (l : List Int) : FullR (resM l 13) := fun ch h1 h2 => by
  have := resM_valOf l 13 (ch.toNat - 1) (by omega)
  rw [show (((ch.toNat - 1 + 1 : Nat) : Int)) = ch by omega] at this
  exact ⟨_, this⟩

theorem sub_of_mem {l : List Int} {k : Nat} {s : List Res} (h : ∀ r, r ∈ s → r ∈ resM l k) : SubR s (resM l k) := fun ch v hv => by
  unfold valOf at hv
  simp only [Option.map_eq_some_iff] at hv
  obtain ⟨r, hr, rfl⟩ := hv
  have hm := h r (List.mem_of_find?_eq_some hr)
  have hc := List.find?_some hr
  have : r.1 = ch := by simpa using hc
  rw [← this]
  exact resM_mem hm
end Tdoc
/- The library: Itoa, Atoi, Join, Split, Cut as contracts of this layer. -/
set_option linter.unusedVariables false
set_option linter.unusedSimpArgs false
namespace Tdoc
open Go Go.Proofs Go.RowKit Go.Sort

theorem funcOk {f : FuncId} {fn : Func} (h : Tryz.prog.funcs[f]? = some fn) (h1 : (fn.name == "runtime.NumGoroutine") = false) (h2 : fn.body.isNone = false) : ∃ fn, Tryz.prog.funcs[f]? = some fn ∧ (fn.name == "runtime.NumGoroutine") = false ∧ fn.body.isNone = false := ⟨fn, h, h1, h2⟩

theorem args1 {G : Gh} {x : AV} {vals : Array Value} (h1 : vals.size = [x].length) (h2 : ∀ (j : Nat) (y : AV) (v : Value), [x][j]? = some y → vals[j]? = some v → RepA G y v) : ∃ v, vals = #[v] ∧ RepA G x v := by
  obtain ⟨l⟩ := vals
  match l, h1 with
  | [v], _ => exact ⟨v, rfl, h2 0 _ _ rfl rfl⟩
theorem args2 {G : Gh} {x y : AV} {vals : Array Value} (h1 : vals.size = [x, y].length) (h2 : ∀ (j : Nat) (z : AV) (v : Value), [x, y][j]? = some z → vals[j]? = some v → RepA G z v) : ∃ u v, vals = #[u, v] ∧ RepA G x u ∧ RepA G y v := by
  obtain ⟨l⟩ := vals
  match l, h1 with
  | [u, v], _ => exact ⟨u, v, rfl, h2 0 _ _ rfl rfl, h2 1 _ _ rfl rfl⟩

theorem Itoa_spec (n : Int) (h0 : -9223372036854775808 ≤ n ∧ n ≤ 9223372036854775807) : Spec Tryz.prog 50 [.d (.int .i64 n)] [] (fun r h' => r = .d (.str (Lib.itoa n)) ∧ h' = []) :=
  Spec_lib (funcOk Tryz.func50 rfl rfl) rfl fun G w vals h1 h2 ht hi => by
    obtain ⟨v, rfl, hv⟩ := args1 h1 h2
    rw [hv.int_inv]
    obtain ⟨_, o, ho, t, f, rfl⟩ := ht.2 3 _ rfl
    have htab : Lib.TabIs Tryz.prog w "internal/strconv.uint64pow10" .u64 Lib.pow10Tab := by
      unfold Lib.TabIs World.var?
      rw [show Tryz.prog.globalNamed "internal/strconv.uint64pow10" = some 3 by kernel_rfl]
      simp only [Option.bind_some, ho]
      simp [Lib.pow10Tab]
    refine (Tryz.strconv_Itoa n h0.1 h0.2 w htab).mono ?_
    rintro e w' ⟨rfl, k, os, rfl⟩
    exact ⟨_, rfl, .d (.str _), Below_grow w k os⟩

theorem Join_spec (l : List (List UInt8)) (sep : List UInt8) (hl : l.length ≤ 140737488355328) (hj : (Lib.join l sep).length ≤ 140737488355328) :
    Spec Tryz.prog 51 [.d (.sl 1 (strsAV l)), .d (.str sep)] [] (fun r h' => r = .d (.str (Lib.join l sep)) ∧ h' = []) :=
  Spec_lib (funcOk Tryz.func51 rfl rfl) rfl fun G w vals h1 h2 ht hi => by
    obtain ⟨u, v, rfl, hu, hv⟩ := args2 h1 h2
    rw [hv.str_inv]
    rcases rep_strs hi hu with ⟨bk, o, c, rfl, hc, hcell⟩ | ⟨rfl, rfl⟩
    · cases l with
      | nil =>
        refine (Tryz.strings_Join_none (some ⟨bk, o, none⟩) c ⟨sep.toArray⟩ w).mono ?_
        rintro e w' ⟨rfl, rfl⟩
        exact ⟨_, rfl, .d (.str []), Below.refl _ _⟩
      | cons a l =>
        have hmap : ((a :: l).map fun s => (⟨s.toArray⟩ : ByteArray)).map (·.data.toList) = a :: l := by
          rw [List.map_map]
          exact (List.map_congr_left fun s _ => rfl).trans (List.map_id _)
        have h0 := hcell 0 a rfl
        have hbk := cell_block_lt h0
        have hcon := Tryz.strings_Join bk o c ((a :: l).map fun s => (⟨s.toArray⟩ : ByteArray)) ⟨sep.toArray⟩ w (fun j x hx => by
          simp only [List.getElem?_map, Option.map_eq_some_iff] at hx
          obtain ⟨s, hs, rfl⟩ := hx
          exact hcell j s hs) hbk (by rw [List.length_map]; exact hl) (by rw [List.length_map]; exact hc) (by rw [hmap]; exact hj)
        rw [hmap, List.length_map] at hcon
        refine hcon.mono ?_
        rintro e w' ⟨rfl, hb⟩
        exact ⟨_, rfl, .d (.str _), hb⟩
    · refine (Tryz.strings_Join_none none 0 ⟨sep.toArray⟩ w).mono ?_
      rintro e w' ⟨rfl, rfl⟩
      exact ⟨_, rfl, .d (.str []), Below.refl _ _⟩

/-- What Atoi says: the number, and whether there was no error. -/
def atoiR (s : List UInt8) : Int × Bool := match Lib.atoiAll s with
  | .ok v => (v, true)
  | .range => (Lib.atoiSat s, false)
  | _ => (0, false)

theorem Atoi_spec (s : List UInt8) (hs : s.length ≤ 1000000) : Spec Tryz.prog 41 [.d (.str s)] [] (fun r h' => r = .tup [.d (.int .i64 (atoiR s).1), .ifc (atoiR s).2] ∧ h' = []) :=
  Spec_lib (funcOk Tryz.func41 rfl rfl) rfl fun G w vals h1 h2 ht hi => by
    obtain ⟨v, rfl, hv⟩ := args1 h1 h2
    rw [hv.str_inv]
    have hsz : (⟨s.toArray⟩ : ByteArray).size = s.length := by simp [ByteArray.size]
    have two : ∀ (n : Int) (b : Bool) (u : Value), ifcOk b u = true → RepA G (.tup [.d (.int .i64 n), .ifc b]) (.tuple #[.int .i64 n, u]) := fun n b u hu => .tup _ rfl fun j x y hx hy => by
      match j, hx, hy with
      | 0, hx, hy => simp at hx hy; subst hx; subst hy; exact .d (.int _ _)
      | 1, hx, hy => simp at hx hy; subst hx; subst hy; exact .ifc hu
      | j + 2, hx, hy => simp at hx
    unfold atoiR
    cases h : Lib.atoiAll s with
    | ok n =>
      refine (Tryz.strconv_Atoi_ok ⟨s.toArray⟩ (by rw [hsz]; omega) n h w).mono ?_
      rintro e w' ⟨rfl, hw⟩
      refine ⟨_, rfl, two _ _ _ rfl, ?_⟩
      rcases hw with rfl | ⟨t, rfl⟩
      · exact Below.refl _ _
      · exact Lib.bytesWorld_below _ _ _
    | range =>
      obtain ⟨_, o, ho, ev, t, f, rfl, hev⟩ := ht.2 2 _ rfl
      refine (Tryz.strconv_Atoi_range ⟨s.toArray⟩ (by rw [hsz]; omega) h ev w (by simp [World.cell?, ho]) hev).mono ?_
      rintro e w' ⟨N, rfl, -, -, hb⟩
      exact ⟨_, rfl, two _ _ _ rfl, hb⟩
    | _ =>
      obtain ⟨_, o, ho, ev, t, f, rfl, hev⟩ := ht.2 1 _ rfl
      refine (Tryz.strconv_Atoi_syntax ⟨s.toArray⟩ (by rw [hsz]; omega) h ev w (by simp [World.cell?, ho]) hev).mono ?_
      rintro e w' ⟨N, rfl, -, -, hb⟩
      exact ⟨_, rfl, two _ _ _ rfl, hb⟩

theorem Cut_spec (s sep : List UInt8) (hs : s.length ≤ 1000000) : Spec Tryz.prog 38 [.d (.str s), .d (.str sep)] [] (fun r h' => r = .tup [.d (.str (Lib.cut s sep).1), .d (.str (Lib.cut s sep).2.1), .d (.bool (Lib.cut s sep).2.2)] ∧ h' = []) :=
  Spec_lib (funcOk Tryz.func38 rfl rfl) rfl fun G w vals h1 h2 ht hi => by
    obtain ⟨u, v, rfl, hu, hv⟩ := args2 h1 h2
    rw [hu.str_inv, hv.str_inv]
    have hsz : (⟨s.toArray⟩ : ByteArray).size = s.length := by simp [ByteArray.size]
    obtain ⟨_, o, ho, m, t, f, rfl⟩ := ht.2 0 _ rfl
    refine (Tryz.strings_Cut ⟨s.toArray⟩ ⟨sep.toArray⟩ m w (by rw [hsz]; omega) (by simp [World.cell?, ho])).mono ?_
    rintro e w' ⟨rfl, n, rfl⟩
    refine ⟨_, rfl, .tup _ rfl fun j x y hx hy => ?_, Below_drew w n⟩
    match j, hx, hy with
    | 0, hx, hy => simp at hx hy; subst hx; subst hy; exact .d (.str _)
    | 1, hx, hy => simp at hx hy; subst hx; subst hy; exact .d (.str _)
    | 2, hx, hy => simp at hx hy; subst hx; subst hy; exact .d (.bool _)
    | j + 3, hx, hy => simp at hx

/-- The parts of a text. -/
def splitL (s sep : List UInt8) : List (List UInt8) := (Lib.splitB ⟨sep.toArray⟩ 0 (Lib.countB ⟨s.toArray⟩ ⟨sep.toArray⟩) ⟨s.toArray⟩).map (·.data.toList)

theorem Split_spec (s sep : List UInt8) (hs : s.length ≤ 1000000) (h1 : 1 ≤ sep.length) (hlen : (splitL s sep).length = Lib.countB ⟨s.toArray⟩ ⟨sep.toArray⟩ + 1) : Spec Tryz.prog 37 [.d (.str s), .d (.str sep)] [] (fun r h' => r = .d (.sl 1 (strsAV (splitL s sep))) ∧ h' = []) :=
  Spec_libRow (cs := ((splitL s sep).map fun s => Value.string ⟨s.toArray⟩).toArray) (t := 9) (funcOk Tryz.func37 rfl rfl) (fun e he => by simp only [strsAV, List.mem_map] at he; obtain ⟨s, _, rfl⟩ := he; rfl) (fun m i e j d he hd => by
    simp only [strsAV, List.getElem?_map, Option.map_eq_some_iff] at he
    obtain ⟨s, hs, rfl⟩ := he
    cases j with
    | zero => simp at hd; subst hd; exact ⟨.string ⟨s.toArray⟩, by simp [hs], .str s⟩
    | succ j => simp at hd) fun G w vals k1 k2 ht hi => by
    obtain ⟨u, v, rfl, hu, hv⟩ := args2 k1 k2
    rw [hu.str_inv, hv.str_inv]
    have hsz : ∀ s : List UInt8, (⟨s.toArray⟩ : ByteArray).size = s.length := fun s => by simp [ByteArray.size]
    obtain ⟨_, o, ho, m, t, f, rfl⟩ := ht.2 0 _ rfl
    refine (Tryz.strings_Split ⟨s.toArray⟩ ⟨sep.toArray⟩ m w (by rw [hsz]; omega) (by simp [World.cell?, ho]) (by rw [hsz]; exact h1)).mono ?_
    rintro e w' ⟨rfl, rfl⟩
    refine ⟨by rw [show (strsAV (splitL s sep)).length = (splitL s sep).length by simp [strsAV], hlen], ?_⟩
    congr 2
    unfold splitL
    rw [List.map_map]
    rfl
end Tdoc
/- The reference's names, and what its results say about conditions. -/
set_option linter.unusedVariables false
set_option linter.unusedSimpArgs false
namespace Tdoc
open Go Go.Proofs

def nameOf (l : List (List UInt8)) (n : Int) : List UInt8 := if n < 1 ∨ n > l.length then [] else (l[(n - 1).toNat]?).getD []
theorem strsAV_length (l : List (List UInt8)) : (strsAV l).length = l.length := by simp [strsAV]

set_option maxHeartbeats 8000000 in
set_option maxRecDepth 100000 in
theorem Name_spec (l : List (List UInt8)) (n : Int) (hn : -9223372036854775808 ≤ n ∧ n ≤ 9223372036854775807) (hl : l.length ≤ 1000000) : Spec Tryz.prog 49 [.d (.sl 1 (strsAV l)), .d (.int .i64 n)] [] (fun r h' => r = .d (.str (nameOf l n)) ∧ h' = []) := by
  have hlen := strsAV_length l
  unfold nameOf
  refine Spec_of_body hT Tryz.func49 rfl rfl rfl rfl ?_
  intro E hE
  repeat (first | refine wk hT rfl rfl ?_ | refine wd hT rfl rfl rfl ?_ | refine wz hT rfl ?_ | refine AWd_nil ?_ | refine AWk_nil ?_ | refine wh hT rfl rfl rfl rfl ?_ | refine wg hT rfl rfl rfl rfl rfl ?_ | refine AW_seq ?_ | refine AW_region ?_ | refine wx mixed ?_ | refine AW_block ?_ | refine AW_skip ?_ | refine AW_exit ?_ | refine AW_ret ?_)
  refine AW_condL rfl (fun h1 => ?_) (fun h1 => ?_)
  · have h1' : n < 1 ∨ n > l.length := by rw [hlen] at h1; simpa using h1
    rw [if_pos h1']
    repeat (first | refine wk hT rfl rfl ?_ | refine wd hT rfl rfl rfl ?_ | refine wz hT rfl ?_ | refine AWd_nil ?_ | refine AWk_nil ?_ | refine wh hT rfl rfl rfl rfl ?_ | refine wg hT rfl rfl rfl rfl rfl ?_ | refine AW_seq ?_ | refine AW_region ?_ | refine wx mixed ?_ | refine AW_block ?_ | refine AW_skip ?_ | refine AW_exit ?_ | refine AW_ret ?_)
    first | exact rx ⟨rfl, rfl⟩ | exact rxN ⟨rfl, rfl⟩ | (refine rq ⟨rfl, rfl⟩ rfl ?_; repeat (first | exact trivial | exact AV.le.refl _ | exact AV.le.dat | exact AV.le.nils | exact AV.le.nilsf | exact AV.le.any _ | exact ObLe.refl _ | exact ⟨rfl, rfl⟩ | refine AV.le.tup ?_ | refine AV.le.agg ?_ | exact li | exact lb | exact ls | exact lk | exact ld | exact lz | refine ⟨?_, ?_⟩)) | (refine rqN ⟨rfl, rfl⟩ rfl ?_; repeat (first | exact trivial | exact AV.le.refl _ | exact AV.le.dat | exact AV.le.nils | exact AV.le.nilsf | exact AV.le.any _ | exact ObLe.refl _ | exact ⟨rfl, rfl⟩ | refine AV.le.tup ?_ | refine AV.le.agg ?_ | exact li | exact lb | exact ls | exact lk | exact ld | exact lz | refine ⟨?_, ?_⟩))
  · have h1' : ¬ (n < 1 ∨ n > l.length) := by rw [hlen] at h1; simpa using h1
    rw [if_neg h1']
    have hw : IntKind.i64.wrap (n - 1) = n - 1 := wrap_id (by omega)
    have hlt : (n - 1).toNat < l.length := by omega
    have hel : (strsAV l)[(IntKind.i64.wrap (n - 1)).toNat]? = some [.str l[(n - 1).toNat]] := by rw [hw]; simp [strsAV, hlt]
    rw [List.getElem?_eq_getElem hlt, Option.getD_some]
    generalize l[(n - 1).toNat] = s at hel
    repeat (first | refine wk hT rfl rfl ?_ | refine wd hT rfl rfl rfl ?_ | refine wz hT rfl ?_ | refine AWd_nil ?_ | refine AWk_nil ?_ | refine wh hT rfl rfl rfl rfl ?_ | refine wg hT rfl rfl rfl rfl rfl ?_ | refine AW_seq ?_ | refine AW_region ?_ | refine wx mixed ?_ | refine AW_block ?_ | refine AW_skip ?_ | refine AW_exit ?_ | refine AW_ret ?_)
    refine AWk_op (OpS_of_pure (indexAddr_ok hT rfl rfl rfl rfl (by rw [hw]; omega) hel)) rfl ?_
    repeat (first | refine wk hT rfl rfl ?_ | refine wd hT rfl rfl rfl ?_ | refine wz hT rfl ?_ | refine AWd_nil ?_ | refine AWk_nil ?_ | refine wh hT rfl rfl rfl rfl ?_ | refine wg hT rfl rfl rfl rfl rfl ?_ | refine AW_seq ?_ | refine AW_region ?_ | refine wx mixed ?_ | refine AW_block ?_ | refine AW_skip ?_ | refine AW_exit ?_ | refine AW_ret ?_)
    first | exact rx ⟨rfl, rfl⟩ | exact rxN ⟨rfl, rfl⟩ | (refine rq ⟨rfl, rfl⟩ rfl ?_; repeat (first | exact trivial | exact AV.le.refl _ | exact AV.le.dat | exact AV.le.nils | exact AV.le.nilsf | exact AV.le.any _ | exact ObLe.refl _ | exact ⟨rfl, rfl⟩ | refine AV.le.tup ?_ | refine AV.le.agg ?_ | exact li | exact lb | exact ls | exact lk | exact ld | exact lz | refine ⟨?_, ?_⟩)) | (refine rqN ⟨rfl, rfl⟩ rfl ?_; repeat (first | exact trivial | exact AV.le.refl _ | exact AV.le.dat | exact AV.le.nils | exact AV.le.nilsf | exact AV.le.any _ | exact ObLe.refl _ | exact ⟨rfl, rfl⟩ | refine AV.le.tup ?_ | refine AV.le.agg ?_ | exact li | exact lb | exact ls | exact lk | exact ld | exact lz | refine ⟨?_, ?_⟩))

set_option maxHeartbeats 8000000 in
set_option maxRecDepth 100000 in
theorem at_spec (x : List UInt8) (l : List (List UInt8)) (n : Int) (hl : l.length ≤ 1000000) : Spec Tryz.prog 70 [.d (.sl 1 (strsAV (x :: l))), .d (.int .i64 n)] [] (fun r h' => r = .d (.str (nameOf l n)) ∧ h' = []) := by
  have hlen := strsAV_length (x :: l)
  rw [List.length_cons] at hlen
  unfold nameOf
  generalize hss : strsAV (x :: l) = ss at hlen
  refine Spec_of_body hT Tryz.func70 rfl rfl rfl rfl ?_
  intro E hE
  repeat (first | refine wk hT rfl rfl ?_ | refine wd hT rfl rfl rfl ?_ | refine wz hT rfl ?_ | refine AWd_nil ?_ | refine AWk_nil ?_ | refine wh hT rfl rfl rfl rfl ?_ | refine wg hT rfl rfl rfl rfl rfl ?_ | refine AW_seq ?_ | refine AW_region ?_ | refine wx mixed ?_ | refine AW_block ?_ | refine AW_skip ?_ | refine AW_exit ?_ | refine AW_ret ?_)
  refine AW_condL rfl (fun h1 => ?_) (fun h1 => ?_)
  · have h1' : n < 1 ∨ n > l.length := by rw [hlen] at h1; simp at h1; omega
    rw [if_pos h1']
    repeat (first | refine wk hT rfl rfl ?_ | refine wd hT rfl rfl rfl ?_ | refine wz hT rfl ?_ | refine AWd_nil ?_ | refine AWk_nil ?_ | refine wh hT rfl rfl rfl rfl ?_ | refine wg hT rfl rfl rfl rfl rfl ?_ | refine AW_seq ?_ | refine AW_region ?_ | refine wx mixed ?_ | refine AW_block ?_ | refine AW_skip ?_ | refine AW_exit ?_ | refine AW_ret ?_)
    first | exact rx ⟨rfl, rfl⟩ | exact rxN ⟨rfl, rfl⟩ | (refine rq ⟨rfl, rfl⟩ rfl ?_; repeat (first | exact trivial | exact AV.le.refl _ | exact AV.le.dat | exact AV.le.nils | exact AV.le.nilsf | exact AV.le.any _ | exact ObLe.refl _ | exact ⟨rfl, rfl⟩ | refine AV.le.tup ?_ | refine AV.le.agg ?_ | exact li | exact lb | exact ls | exact lk | exact ld | exact lz | refine ⟨?_, ?_⟩)) | (refine rqN ⟨rfl, rfl⟩ rfl ?_; repeat (first | exact trivial | exact AV.le.refl _ | exact AV.le.dat | exact AV.le.nils | exact AV.le.nilsf | exact AV.le.any _ | exact ObLe.refl _ | exact ⟨rfl, rfl⟩ | refine AV.le.tup ?_ | refine AV.le.agg ?_ | exact li | exact lb | exact ls | exact lk | exact ld | exact lz | refine ⟨?_, ?_⟩))
  · have h1' : ¬ (n < 1 ∨ n > l.length) := by rw [hlen] at h1; simp at h1; omega
    rw [if_neg h1']
    have hlt : (n - 1).toNat < l.length := by omega
    have hel : ss[n.toNat]? = some [.str l[(n - 1).toNat]] := by
      rw [← hss, show n.toNat = (n - 1).toNat + 1 by omega]; simp [strsAV, hlt]
    rw [List.getElem?_eq_getElem hlt, Option.getD_some]
    generalize l[(n - 1).toNat] = s at hel
    repeat (first | refine wk hT rfl rfl ?_ | refine wd hT rfl rfl rfl ?_ | refine wz hT rfl ?_ | refine AWd_nil ?_ | refine AWk_nil ?_ | refine wh hT rfl rfl rfl rfl ?_ | refine wg hT rfl rfl rfl rfl rfl ?_ | refine AW_seq ?_ | refine AW_region ?_ | refine wx mixed ?_ | refine AW_block ?_ | refine AW_skip ?_ | refine AW_exit ?_ | refine AW_ret ?_)
    first | refine AWk_op (OpS_of_pure (indexAddr_ok hT rfl rfl rfl rfl (by omega) (hel))) rfl ?_ | refine AWd_op (OpS_of_pure (indexAddr_ok hT rfl rfl rfl rfl (by omega) (hel))) rfl rfl ?_
    repeat (first | refine wk hT rfl rfl ?_ | refine wd hT rfl rfl rfl ?_ | refine wz hT rfl ?_ | refine AWd_nil ?_ | refine AWk_nil ?_ | refine wh hT rfl rfl rfl rfl ?_ | refine wg hT rfl rfl rfl rfl rfl ?_ | refine AW_seq ?_ | refine AW_region ?_ | refine wx mixed ?_ | refine AW_block ?_ | refine AW_skip ?_ | refine AW_exit ?_ | refine AW_ret ?_)
    first | exact rx ⟨rfl, rfl⟩ | exact rxN ⟨rfl, rfl⟩ | (refine rq ⟨rfl, rfl⟩ rfl ?_; repeat (first | exact trivial | exact AV.le.refl _ | exact AV.le.dat | exact AV.le.nils | exact AV.le.nilsf | exact AV.le.any _ | exact ObLe.refl _ | exact ⟨rfl, rfl⟩ | refine AV.le.tup ?_ | refine AV.le.agg ?_ | exact li | exact lb | exact ls | exact lk | exact ld | exact lz | refine ⟨?_, ?_⟩)) | (refine rqN ⟨rfl, rfl⟩ rfl ?_; repeat (first | exact trivial | exact AV.le.refl _ | exact AV.le.dat | exact AV.le.nils | exact AV.le.nilsf | exact AV.le.any _ | exact ObLe.refl _ | exact ⟨rfl, rfl⟩ | refine AV.le.tup ?_ | refine AV.le.agg ?_ | exact li | exact lb | exact ls | exact lk | exact ld | exact lz | refine ⟨?_, ?_⟩))

set_option maxHeartbeats 8000000 in
set_option maxRecDepth 100000 in
theorem CheckR_spec (n : Int) : Spec Tryz.prog 47 [.d (.int .i64 n)] [] (fun r h' => r = .d (.str (nameOf chk n)) ∧ h' = []) := by
  have h := at_spec [] chk n (by decide)
  have hc := checks_spec
  generalize strsAV ([] :: chk) = ss at h hc
  refine Spec_of_body hT Tryz.func47 rfl rfl rfl rfl ?_
  intro E hE
  repeat (first | refine wk hT rfl rfl ?_ | refine wd hT rfl rfl rfl ?_ | refine wz hT rfl ?_ | refine AWd_nil ?_ | refine AWk_nil ?_ | refine wh hT rfl rfl rfl rfl ?_ | refine wg hT rfl rfl rfl rfl rfl ?_ | refine AW_seq ?_ | refine AW_region ?_ | refine wx mixed ?_ | refine AW_block ?_ | refine AW_skip ?_ | refine AW_exit ?_ | refine AW_ret ?_)
  first | refine AWk_op (callS0 rfl rfl (hc) rfl rfl rfl) rfl ?_ | refine AWd_op (callS0 rfl rfl (hc) rfl rfl rfl) rfl rfl ?_ | refine AWk_op (callS0L rfl rfl (hc) rfl (by repeat (first | exact trivial | exact AV.le.refl _ | exact AV.le.dat | exact AV.le.nils | exact AV.le.nilsf | exact AV.le.any _ | exact ObLe.refl _ | exact ⟨rfl, rfl⟩ | refine AV.le.tup ?_ | refine AV.le.agg ?_ | exact li | exact lb | exact ls | exact lk | exact ld | exact lz | refine ⟨?_, ?_⟩)) rfl rfl) rfl ?_ | refine AWd_op (callS0L rfl rfl (hc) rfl (by repeat (first | exact trivial | exact AV.le.refl _ | exact AV.le.dat | exact AV.le.nils | exact AV.le.nilsf | exact AV.le.any _ | exact ObLe.refl _ | exact ⟨rfl, rfl⟩ | refine AV.le.tup ?_ | refine AV.le.agg ?_ | exact li | exact lb | exact ls | exact lk | exact ld | exact lz | refine ⟨?_, ?_⟩)) rfl rfl) rfl rfl ?_
  repeat (first | refine wk hT rfl rfl ?_ | refine wd hT rfl rfl rfl ?_ | refine wz hT rfl ?_ | refine AWd_nil ?_ | refine AWk_nil ?_ | refine wh hT rfl rfl rfl rfl ?_ | refine wg hT rfl rfl rfl rfl rfl ?_ | refine AW_seq ?_ | refine AW_region ?_ | refine wx mixed ?_ | refine AW_block ?_ | refine AW_skip ?_ | refine AW_exit ?_ | refine AW_ret ?_)
  first | refine AWk_op (callS0 rfl rfl (h) rfl rfl rfl) rfl ?_ | refine AWd_op (callS0 rfl rfl (h) rfl rfl rfl) rfl rfl ?_ | refine AWk_op (callS0L rfl rfl (h) rfl (by repeat (first | exact trivial | exact AV.le.refl _ | exact AV.le.dat | exact AV.le.nils | exact AV.le.nilsf | exact AV.le.any _ | exact ObLe.refl _ | exact ⟨rfl, rfl⟩ | refine AV.le.tup ?_ | refine AV.le.agg ?_ | exact li | exact lb | exact ls | exact lk | exact ld | exact lz | refine ⟨?_, ?_⟩)) rfl rfl) rfl ?_ | refine AWd_op (callS0L rfl rfl (h) rfl (by repeat (first | exact trivial | exact AV.le.refl _ | exact AV.le.dat | exact AV.le.nils | exact AV.le.nilsf | exact AV.le.any _ | exact ObLe.refl _ | exact ⟨rfl, rfl⟩ | refine AV.le.tup ?_ | refine AV.le.agg ?_ | exact li | exact lb | exact ls | exact lk | exact ld | exact lz | refine ⟨?_, ?_⟩)) rfl rfl) rfl rfl ?_
  repeat (first | refine wk hT rfl rfl ?_ | refine wd hT rfl rfl rfl ?_ | refine wz hT rfl ?_ | refine AWd_nil ?_ | refine AWk_nil ?_ | refine wh hT rfl rfl rfl rfl ?_ | refine wg hT rfl rfl rfl rfl rfl ?_ | refine AW_seq ?_ | refine AW_region ?_ | refine wx mixed ?_ | refine AW_block ?_ | refine AW_skip ?_ | refine AW_exit ?_ | refine AW_ret ?_)
  first | exact rx ⟨rfl, rfl⟩ | exact rxN ⟨rfl, rfl⟩ | (refine rq ⟨rfl, rfl⟩ rfl ?_; repeat (first | exact trivial | exact AV.le.refl _ | exact AV.le.dat | exact AV.le.nils | exact AV.le.nilsf | exact AV.le.any _ | exact ObLe.refl _ | exact ⟨rfl, rfl⟩ | refine AV.le.tup ?_ | refine AV.le.agg ?_ | exact li | exact lb | exact ls | exact lk | exact ld | exact lz | refine ⟨?_, ?_⟩)) | (refine rqN ⟨rfl, rfl⟩ rfl ?_; repeat (first | exact trivial | exact AV.le.refl _ | exact AV.le.dat | exact AV.le.nils | exact AV.le.nilsf | exact AV.le.any _ | exact ObLe.refl _ | exact ⟨rfl, rfl⟩ | refine AV.le.tup ?_ | refine AV.le.agg ?_ | exact li | exact lb | exact ls | exact lk | exact ld | exact lz | refine ⟨?_, ?_⟩))
set_option maxHeartbeats 8000000 in
set_option maxRecDepth 100000 in
theorem ValueR_spec (n : Int) : Spec Tryz.prog 48 [.d (.int .i64 n)] [] (fun r h' => r = .d (.str (nameOf vls n)) ∧ h' = []) := by
  have h := at_spec [] vls n (by decide)
  have hc := values_spec
  generalize strsAV ([] :: vls) = ss at h hc
  refine Spec_of_body hT Tryz.func48 rfl rfl rfl rfl ?_
  intro E hE
  repeat (first | refine wk hT rfl rfl ?_ | refine wd hT rfl rfl rfl ?_ | refine wz hT rfl ?_ | refine AWd_nil ?_ | refine AWk_nil ?_ | refine wh hT rfl rfl rfl rfl ?_ | refine wg hT rfl rfl rfl rfl rfl ?_ | refine AW_seq ?_ | refine AW_region ?_ | refine wx mixed ?_ | refine AW_block ?_ | refine AW_skip ?_ | refine AW_exit ?_ | refine AW_ret ?_)
  first | refine AWk_op (callS0 rfl rfl (hc) rfl rfl rfl) rfl ?_ | refine AWd_op (callS0 rfl rfl (hc) rfl rfl rfl) rfl rfl ?_ | refine AWk_op (callS0L rfl rfl (hc) rfl (by repeat (first | exact trivial | exact AV.le.refl _ | exact AV.le.dat | exact AV.le.nils | exact AV.le.nilsf | exact AV.le.any _ | exact ObLe.refl _ | exact ⟨rfl, rfl⟩ | refine AV.le.tup ?_ | refine AV.le.agg ?_ | exact li | exact lb | exact ls | exact lk | exact ld | exact lz | refine ⟨?_, ?_⟩)) rfl rfl) rfl ?_ | refine AWd_op (callS0L rfl rfl (hc) rfl (by repeat (first | exact trivial | exact AV.le.refl _ | exact AV.le.dat | exact AV.le.nils | exact AV.le.nilsf | exact AV.le.any _ | exact ObLe.refl _ | exact ⟨rfl, rfl⟩ | refine AV.le.tup ?_ | refine AV.le.agg ?_ | exact li | exact lb | exact ls | exact lk | exact ld | exact lz | refine ⟨?_, ?_⟩)) rfl rfl) rfl rfl ?_
  repeat (first | refine wk hT rfl rfl ?_ | refine wd hT rfl rfl rfl ?_ | refine wz hT rfl ?_ | refine AWd_nil ?_ | refine AWk_nil ?_ | refine wh hT rfl rfl rfl rfl ?_ | refine wg hT rfl rfl rfl rfl rfl ?_ | refine AW_seq ?_ | refine AW_region ?_ | refine wx mixed ?_ | refine AW_block ?_ | refine AW_skip ?_ | refine AW_exit ?_ | refine AW_ret ?_)
  first | refine AWk_op (callS0 rfl rfl (h) rfl rfl rfl) rfl ?_ | refine AWd_op (callS0 rfl rfl (h) rfl rfl rfl) rfl rfl ?_ | refine AWk_op (callS0L rfl rfl (h) rfl (by repeat (first | exact trivial | exact AV.le.refl _ | exact AV.le.dat | exact AV.le.nils | exact AV.le.nilsf | exact AV.le.any _ | exact ObLe.refl _ | exact ⟨rfl, rfl⟩ | refine AV.le.tup ?_ | refine AV.le.agg ?_ | exact li | exact lb | exact ls | exact lk | exact ld | exact lz | refine ⟨?_, ?_⟩)) rfl rfl) rfl ?_ | refine AWd_op (callS0L rfl rfl (h) rfl (by repeat (first | exact trivial | exact AV.le.refl _ | exact AV.le.dat | exact AV.le.nils | exact AV.le.nilsf | exact AV.le.any _ | exact ObLe.refl _ | exact ⟨rfl, rfl⟩ | refine AV.le.tup ?_ | refine AV.le.agg ?_ | exact li | exact lb | exact ls | exact lk | exact ld | exact lz | refine ⟨?_, ?_⟩)) rfl rfl) rfl rfl ?_
  repeat (first | refine wk hT rfl rfl ?_ | refine wd hT rfl rfl rfl ?_ | refine wz hT rfl ?_ | refine AWd_nil ?_ | refine AWk_nil ?_ | refine wh hT rfl rfl rfl rfl ?_ | refine wg hT rfl rfl rfl rfl rfl ?_ | refine AW_seq ?_ | refine AW_region ?_ | refine wx mixed ?_ | refine AW_block ?_ | refine AW_skip ?_ | refine AW_exit ?_ | refine AW_ret ?_)
  first | exact rx ⟨rfl, rfl⟩ | exact rxN ⟨rfl, rfl⟩ | (refine rq ⟨rfl, rfl⟩ rfl ?_; repeat (first | exact trivial | exact AV.le.refl _ | exact AV.le.dat | exact AV.le.nils | exact AV.le.nilsf | exact AV.le.any _ | exact ObLe.refl _ | exact ⟨rfl, rfl⟩ | refine AV.le.tup ?_ | refine AV.le.agg ?_ | exact li | exact lb | exact ls | exact lk | exact ld | exact lz | refine ⟨?_, ?_⟩)) | (refine rqN ⟨rfl, rfl⟩ rfl ?_; repeat (first | exact trivial | exact AV.le.refl _ | exact AV.le.dat | exact AV.le.nils | exact AV.le.nilsf | exact AV.le.any _ | exact ObLe.refl _ | exact ⟨rfl, rfl⟩ | refine AV.le.tup ?_ | refine AV.le.agg ?_ | exact li | exact lb | exact ls | exact lk | exact ld | exact lz | refine ⟨?_, ?_⟩))
set_option maxHeartbeats 8000000 in
set_option maxRecDepth 100000 in
theorem VerdictR_spec (n : Int) : Spec Tryz.prog 45 [.d (.int .i64 n)] [] (fun r h' => r = .d (.str (nameOf vds n)) ∧ h' = []) := by
  have h := at_spec [] vds n (by decide)
  have hc := verdicts_spec
  generalize strsAV ([] :: vds) = ss at h hc
  refine Spec_of_body hT Tryz.func45 rfl rfl rfl rfl ?_
  intro E hE
  repeat (first | refine wk hT rfl rfl ?_ | refine wd hT rfl rfl rfl ?_ | refine wz hT rfl ?_ | refine AWd_nil ?_ | refine AWk_nil ?_ | refine wh hT rfl rfl rfl rfl ?_ | refine wg hT rfl rfl rfl rfl rfl ?_ | refine AW_seq ?_ | refine AW_region ?_ | refine wx mixed ?_ | refine AW_block ?_ | refine AW_skip ?_ | refine AW_exit ?_ | refine AW_ret ?_)
  first | refine AWk_op (callS0 rfl rfl (hc) rfl rfl rfl) rfl ?_ | refine AWd_op (callS0 rfl rfl (hc) rfl rfl rfl) rfl rfl ?_ | refine AWk_op (callS0L rfl rfl (hc) rfl (by repeat (first | exact trivial | exact AV.le.refl _ | exact AV.le.dat | exact AV.le.nils | exact AV.le.nilsf | exact AV.le.any _ | exact ObLe.refl _ | exact ⟨rfl, rfl⟩ | refine AV.le.tup ?_ | refine AV.le.agg ?_ | exact li | exact lb | exact ls | exact lk | exact ld | exact lz | refine ⟨?_, ?_⟩)) rfl rfl) rfl ?_ | refine AWd_op (callS0L rfl rfl (hc) rfl (by repeat (first | exact trivial | exact AV.le.refl _ | exact AV.le.dat | exact AV.le.nils | exact AV.le.nilsf | exact AV.le.any _ | exact ObLe.refl _ | exact ⟨rfl, rfl⟩ | refine AV.le.tup ?_ | refine AV.le.agg ?_ | exact li | exact lb | exact ls | exact lk | exact ld | exact lz | refine ⟨?_, ?_⟩)) rfl rfl) rfl rfl ?_
  repeat (first | refine wk hT rfl rfl ?_ | refine wd hT rfl rfl rfl ?_ | refine wz hT rfl ?_ | refine AWd_nil ?_ | refine AWk_nil ?_ | refine wh hT rfl rfl rfl rfl ?_ | refine wg hT rfl rfl rfl rfl rfl ?_ | refine AW_seq ?_ | refine AW_region ?_ | refine wx mixed ?_ | refine AW_block ?_ | refine AW_skip ?_ | refine AW_exit ?_ | refine AW_ret ?_)
  first | refine AWk_op (callS0 rfl rfl (h) rfl rfl rfl) rfl ?_ | refine AWd_op (callS0 rfl rfl (h) rfl rfl rfl) rfl rfl ?_ | refine AWk_op (callS0L rfl rfl (h) rfl (by repeat (first | exact trivial | exact AV.le.refl _ | exact AV.le.dat | exact AV.le.nils | exact AV.le.nilsf | exact AV.le.any _ | exact ObLe.refl _ | exact ⟨rfl, rfl⟩ | refine AV.le.tup ?_ | refine AV.le.agg ?_ | exact li | exact lb | exact ls | exact lk | exact ld | exact lz | refine ⟨?_, ?_⟩)) rfl rfl) rfl ?_ | refine AWd_op (callS0L rfl rfl (h) rfl (by repeat (first | exact trivial | exact AV.le.refl _ | exact AV.le.dat | exact AV.le.nils | exact AV.le.nilsf | exact AV.le.any _ | exact ObLe.refl _ | exact ⟨rfl, rfl⟩ | refine AV.le.tup ?_ | refine AV.le.agg ?_ | exact li | exact lb | exact ls | exact lk | exact ld | exact lz | refine ⟨?_, ?_⟩)) rfl rfl) rfl rfl ?_
  repeat (first | refine wk hT rfl rfl ?_ | refine wd hT rfl rfl rfl ?_ | refine wz hT rfl ?_ | refine AWd_nil ?_ | refine AWk_nil ?_ | refine wh hT rfl rfl rfl rfl ?_ | refine wg hT rfl rfl rfl rfl rfl ?_ | refine AW_seq ?_ | refine AW_region ?_ | refine wx mixed ?_ | refine AW_block ?_ | refine AW_skip ?_ | refine AW_exit ?_ | refine AW_ret ?_)
  first | exact rx ⟨rfl, rfl⟩ | exact rxN ⟨rfl, rfl⟩ | (refine rq ⟨rfl, rfl⟩ rfl ?_; repeat (first | exact trivial | exact AV.le.refl _ | exact AV.le.dat | exact AV.le.nils | exact AV.le.nilsf | exact AV.le.any _ | exact ObLe.refl _ | exact ⟨rfl, rfl⟩ | refine AV.le.tup ?_ | refine AV.le.agg ?_ | exact li | exact lb | exact ls | exact lk | exact ld | exact lz | refine ⟨?_, ?_⟩)) | (refine rqN ⟨rfl, rfl⟩ rfl ?_; repeat (first | exact trivial | exact AV.le.refl _ | exact AV.le.dat | exact AV.le.nils | exact AV.le.nilsf | exact AV.le.any _ | exact ObLe.refl _ | exact ⟨rfl, rfl⟩ | refine AV.le.tup ?_ | refine AV.le.agg ?_ | exact li | exact lb | exact ls | exact lk | exact ld | exact lz | refine ⟨?_, ?_⟩))

theorem encRes_at {l : List Res} {i : Nat} (h : i < l.length) : (encRes l)[((i : Int)).toNat]? = some [.int .i64 l[i].1, .int .i64 l[i].2] := by simp [encRes, encRe, h]

/-- The value of a check's first result, and whether there is one. -/
def valR (ch : Int) (l : List Res) : Int × Bool := match valOf ch l with
  | some v => (v, true)
  | none => (4, false)
set_option maxHeartbeats 8000000 in
set_option maxRecDepth 100000 in
theorem value_spec (l : List Res) (ch : Int) (hl : l.length ≤ 1000000) : Spec Tryz.prog 83 [.d (.sl 2 (encRes l)), .d (.int .i64 ch)] [] (fun r h' => r = .tup [.d (.int .i64 (valR ch l).1), .d (.bool (valR ch l).2)] ∧ h' = []) := by
  have hlen := encRes_length l
  refine Spec_of_body hT Tryz.func83 rfl rfl rfl rfl ?_
  intro E hE
  repeat (first | refine wk hT rfl rfl ?_ | refine wd hT rfl rfl rfl ?_ | refine wz hT rfl ?_ | refine AWd_nil ?_ | refine AWk_nil ?_ | refine wh hT rfl rfl rfl rfl ?_ | refine wg hT rfl rfl rfl rfl rfl ?_ | refine AW_seq ?_ | refine AW_region ?_ | refine wx mixed ?_ | refine AW_block ?_ | refine AW_skip ?_ | refine AW_exit ?_ | refine AW_ret ?_)
  refine AW_loopL (ι := Nat) (fun i => [(0, .d (.sl 2 (encRes l))), (1, .d (.int .i64 ch)), (6, .d (.int .i64 (i : Int)))]) (fun _ => []) (fun i => i ≤ l.length ∧ valR ch (l.drop i) = valR ch l) (fun i => l.length - i) 0 ⟨by omega, by simp⟩ ⟨.refl _, .refl _, .refl _, trivial⟩ (HLe.refl _) ?_
  rintro i ⟨hi, hg⟩
  repeat (first | refine wk hT rfl rfl ?_ | refine wd hT rfl rfl rfl ?_ | refine wz hT rfl ?_ | refine AWd_nil ?_ | refine AWk_nil ?_ | refine wh hT rfl rfl rfl rfl ?_ | refine wg hT rfl rfl rfl rfl rfl ?_ | refine AW_seq ?_ | refine AW_region ?_ | refine wx mixed ?_ | refine AW_block ?_ | refine AW_skip ?_ | refine AW_exit ?_ | refine AW_ret ?_)
  refine AW_condL rfl (fun h1 => ?_) (fun h1 => ?_)
  · have h1' : i < l.length := by rw [hlen] at h1; simpa using h1
    have hel := encRes_at h1'
    have hdrop : l.drop i = l[i] :: l.drop (i + 1) := by simp
    rw [hdrop] at hg
    generalize l[i] = x at hel hg
    obtain ⟨a, b⟩ := x
    repeat (first | refine wk hT rfl rfl ?_ | refine wd hT rfl rfl rfl ?_ | refine wz hT rfl ?_ | refine AWd_nil ?_ | refine AWk_nil ?_ | refine wh hT rfl rfl rfl rfl ?_ | refine wg hT rfl rfl rfl rfl rfl ?_ | refine AW_seq ?_ | refine AW_region ?_ | refine wx mixed ?_ | refine AW_block ?_ | refine AW_skip ?_ | refine AW_exit ?_ | refine AW_ret ?_)
    first | refine AWk_op (OpS_of_pure (indexAddr_ok hT rfl rfl rfl rfl (by omega) (hel))) rfl ?_ | refine AWd_op (OpS_of_pure (indexAddr_ok hT rfl rfl rfl rfl (by omega) (hel))) rfl rfl ?_
    repeat (first | refine wk hT rfl rfl ?_ | refine wd hT rfl rfl rfl ?_ | refine wz hT rfl ?_ | refine AWd_nil ?_ | refine AWk_nil ?_ | refine wh hT rfl rfl rfl rfl ?_ | refine wg hT rfl rfl rfl rfl rfl ?_ | refine AW_seq ?_ | refine AW_region ?_ | refine wx mixed ?_ | refine AW_block ?_ | refine AW_skip ?_ | refine AW_exit ?_ | refine AW_ret ?_)
    refine AW_condL rfl (fun h2 => ?_) (fun h2 => ?_)
    · have h2' : a = ch := by simpa using h2
      have hv : valR ch l = (b, true) := by rw [← hg]; simp [valR, valOf, h2']
      repeat (first | refine wk hT rfl rfl ?_ | refine wd hT rfl rfl rfl ?_ | refine wz hT rfl ?_ | refine AWd_nil ?_ | refine AWk_nil ?_ | refine wh hT rfl rfl rfl rfl ?_ | refine wg hT rfl rfl rfl rfl rfl ?_ | refine AW_seq ?_ | refine AW_region ?_ | refine wx mixed ?_ | refine AW_block ?_ | refine AW_skip ?_ | refine AW_exit ?_ | refine AW_ret ?_)
      first | refine AWk_op (OpS_of_pure (indexAddr_ok hT rfl rfl rfl rfl (by omega) (hel))) rfl ?_ | refine AWd_op (OpS_of_pure (indexAddr_ok hT rfl rfl rfl rfl (by omega) (hel))) rfl rfl ?_
      rw [hv]
      repeat (first | refine wk hT rfl rfl ?_ | refine wd hT rfl rfl rfl ?_ | refine wz hT rfl ?_ | refine AWd_nil ?_ | refine AWk_nil ?_ | refine wh hT rfl rfl rfl rfl ?_ | refine wg hT rfl rfl rfl rfl rfl ?_ | refine AW_seq ?_ | refine AW_region ?_ | refine wx mixed ?_ | refine AW_block ?_ | refine AW_skip ?_ | refine AW_exit ?_ | refine AW_ret ?_)
      first | exact rx ⟨rfl, rfl⟩ | exact rxN ⟨rfl, rfl⟩ | (refine rq ⟨rfl, rfl⟩ rfl ?_; repeat (first | exact trivial | exact AV.le.refl _ | exact AV.le.dat | exact AV.le.nils | exact AV.le.nilsf | exact AV.le.any _ | exact ObLe.refl _ | exact ⟨rfl, rfl⟩ | refine AV.le.tup ?_ | refine AV.le.agg ?_ | exact li | exact lb | exact ls | exact lk | exact ld | exact lz | refine ⟨?_, ?_⟩)) | (refine rqN ⟨rfl, rfl⟩ rfl ?_; repeat (first | exact trivial | exact AV.le.refl _ | exact AV.le.dat | exact AV.le.nils | exact AV.le.nilsf | exact AV.le.any _ | exact ObLe.refl _ | exact ⟨rfl, rfl⟩ | refine AV.le.tup ?_ | refine AV.le.agg ?_ | exact li | exact lb | exact ls | exact lk | exact ld | exact lz | refine ⟨?_, ?_⟩))
    · have h2' : ¬ a = ch := by simpa using h2
      have hv : valR ch (l.drop (i + 1)) = valR ch l := by rw [← hg]; simp [valR, valOf, h2']
      repeat (first | refine wk hT rfl rfl ?_ | refine wd hT rfl rfl rfl ?_ | refine wz hT rfl ?_ | refine AWd_nil ?_ | refine AWk_nil ?_ | refine wh hT rfl rfl rfl rfl ?_ | refine wg hT rfl rfl rfl rfl rfl ?_ | refine AW_seq ?_ | refine AW_region ?_ | refine wx mixed ?_ | refine AW_block ?_ | refine AW_skip ?_ | refine AW_exit ?_ | refine AW_ret ?_)
      exact ⟨i + 1, ⟨by omega, hv⟩, by omega, ⟨.refl _, .refl _, li, trivial⟩, HLe.refl _⟩
  · have h1' : i = l.length := by rw [hlen] at h1; simp at h1; omega
    subst h1'
    rw [← hg]
    rw [List.drop_length]
    repeat (first | refine wk hT rfl rfl ?_ | refine wd hT rfl rfl rfl ?_ | refine wz hT rfl ?_ | refine AWd_nil ?_ | refine AWk_nil ?_ | refine wh hT rfl rfl rfl rfl ?_ | refine wg hT rfl rfl rfl rfl rfl ?_ | refine AW_seq ?_ | refine AW_region ?_ | refine wx mixed ?_ | refine AW_block ?_ | refine AW_skip ?_ | refine AW_exit ?_ | refine AW_ret ?_)
    first | exact rx ⟨rfl, rfl⟩ | exact rxN ⟨rfl, rfl⟩ | (refine rq ⟨rfl, rfl⟩ rfl ?_; repeat (first | exact trivial | exact AV.le.refl _ | exact AV.le.dat | exact AV.le.nils | exact AV.le.nilsf | exact AV.le.any _ | exact ObLe.refl _ | exact ⟨rfl, rfl⟩ | refine AV.le.tup ?_ | refine AV.le.agg ?_ | exact li | exact lb | exact ls | exact lk | exact ld | exact lz | refine ⟨?_, ?_⟩)) | (refine rqN ⟨rfl, rfl⟩ rfl ?_; repeat (first | exact trivial | exact AV.le.refl _ | exact AV.le.dat | exact AV.le.nils | exact AV.le.nilsf | exact AV.le.any _ | exact ObLe.refl _ | exact ⟨rfl, rfl⟩ | refine AV.le.tup ?_ | refine AV.le.agg ?_ | exact li | exact lb | exact ls | exact lk | exact ld | exact lz | refine ⟨?_, ?_⟩))
end Tdoc
/- The reference's Holds and Forced: as the program's. -/
set_option linter.unusedVariables false
set_option linter.unusedSimpArgs false
namespace Tdoc
open Go Go.Proofs

theorem encCs_at {kids : List Cond} {i : Nat} (h : i < kids.length) : (encCs kids)[((i : Int)).toNat]? = some (encC kids[i]) := by simp [encCs_eq, h]

/-- How often a number stands in a list. -/
def cntF (f : Int) (l : List Int) : Nat := l.count f

theorem cnt_take {l : List Int} {i : Nat} (h : i < l.length) (f : Int) : cntF f (l.take (i + 1)) = cntF f (l.take i) + if l[i] = f then 1 else 0 := by
  unfold cntF
  rw [List.take_succ_eq_append_getElem h, List.count_append, List.count_singleton]
  simp [beq_iff_eq]
theorem cnt_le (f : Int) (l : List Int) : cntF f l ≤ l.length := List.count_le_length
theorem cnt_mem {f : Int} {l : List Int} : f ∈ l ↔ 0 < cntF f l := by unfold cntF; rw [List.count_pos_iff]

def cntR (l : List Int) (i : Nat) : List AV := [.d (.int .i64 (cntF 0 (l.take i) : Int)), .d (.int .i64 (cntF 1 (l.take i) : Int)), .d (.int .i64 (cntF 2 (l.take i) : Int))]

set_option maxHeartbeats 8000000 in
set_option maxRecDepth 100000 in
theorem forcedR_spec (l : List Res) (hl : l.length ≤ 1000000) : ∀ (d : Nat) (c : Cond), validC d c = true → smallC c → Spec Tryz.prog 84 [cAV c, .d (.sl 2 (encRes l))] [] (fun r h' => r = .d (.int .i64 (forcedF l d c)) ∧ h' = [])
  | 0, c, hv, _ => by simp [validC] at hv
  | d + 1, .mk k c v kids, hv, hs => by
    have hlen := encCs_length kids
    have hs1 := hs.1
    have ih : ∀ x, x ∈ kids → validC d x = true → Spec Tryz.prog 84 [cAV x, .d (.sl 2 (encRes l))] [] (fun r h' => r = .d (.int .i64 (forcedF l d x)) ∧ h' = []) := fun x hx hvx => forcedR_spec l hl d x hvx (smallCs_at hs.2 x hx)
    have hval := value_spec l c hl
    have hinv := validC_inv hv
    rw [forcedF]
    refine Spec_of_body hT Tryz.func84 rfl rfl rfl rfl ?_
    intro E hE
    repeat (first | refine wk hT rfl rfl ?_ | refine wd hT rfl rfl rfl ?_ | refine wz hT rfl ?_ | refine AWd_nil ?_ | refine AWk_nil ?_ | refine wh hT rfl rfl rfl rfl ?_ | refine wg hT rfl rfl rfl rfl rfl ?_ | refine AW_seq ?_ | refine AW_region ?_ | refine wx mixed ?_ | refine AW_block ?_ | refine AW_skip ?_ | refine AW_exit ?_ | refine AW_ret ?_)
    refine AW_condL rfl (fun hk => ?_) (fun hk => ?_)
    · have hk' : k = 1 := by simpa using hk
      rw [if_pos hk']
      unfold valR at hval
      cases hvo : valOf c l with
      | none =>
        rw [hvo] at hval
        simp only at hval
        repeat (first | refine wk hT rfl rfl ?_ | refine wd hT rfl rfl rfl ?_ | refine wz hT rfl ?_ | refine AWd_nil ?_ | refine AWk_nil ?_ | refine wh hT rfl rfl rfl rfl ?_ | refine wg hT rfl rfl rfl rfl rfl ?_ | refine AW_seq ?_ | refine AW_region ?_ | refine wx mixed ?_ | refine AW_block ?_ | refine AW_skip ?_ | refine AW_exit ?_ | refine AW_ret ?_)
        first | refine AWk_op (callS0 rfl rfl (hval) rfl rfl rfl) rfl ?_ | refine AWd_op (callS0 rfl rfl (hval) rfl rfl rfl) rfl rfl ?_ | refine AWk_op (callS0L rfl rfl (hval) rfl (by repeat (first | exact trivial | exact AV.le.refl _ | exact AV.le.dat | exact AV.le.nils | exact AV.le.nilsf | exact AV.le.any _ | exact ObLe.refl _ | exact ⟨rfl, rfl⟩ | refine AV.le.tup ?_ | refine AV.le.agg ?_ | exact li | exact lb | exact ls | exact lk | exact ld | exact lz | refine ⟨?_, ?_⟩)) rfl rfl) rfl ?_ | refine AWd_op (callS0L rfl rfl (hval) rfl (by repeat (first | exact trivial | exact AV.le.refl _ | exact AV.le.dat | exact AV.le.nils | exact AV.le.nilsf | exact AV.le.any _ | exact ObLe.refl _ | exact ⟨rfl, rfl⟩ | refine AV.le.tup ?_ | refine AV.le.agg ?_ | exact li | exact lb | exact ls | exact lk | exact ld | exact lz | refine ⟨?_, ?_⟩)) rfl rfl) rfl rfl ?_
        repeat (first | refine wk hT rfl rfl ?_ | refine wd hT rfl rfl rfl ?_ | refine wz hT rfl ?_ | refine AWd_nil ?_ | refine AWk_nil ?_ | refine wh hT rfl rfl rfl rfl ?_ | refine wg hT rfl rfl rfl rfl rfl ?_ | refine AW_seq ?_ | refine AW_region ?_ | refine wx mixed ?_ | refine AW_block ?_ | refine AW_skip ?_ | refine AW_exit ?_ | refine AW_ret ?_)
        refine AW_condL rfl (fun h1 => ?_) (fun h1 => ?_)
        · repeat (first | refine wk hT rfl rfl ?_ | refine wd hT rfl rfl rfl ?_ | refine wz hT rfl ?_ | refine AWd_nil ?_ | refine AWk_nil ?_ | refine wh hT rfl rfl rfl rfl ?_ | refine wg hT rfl rfl rfl rfl rfl ?_ | refine AW_seq ?_ | refine AW_region ?_ | refine wx mixed ?_ | refine AW_block ?_ | refine AW_skip ?_ | refine AW_exit ?_ | refine AW_ret ?_)
          first | exact rx ⟨rfl, rfl⟩ | exact rxN ⟨rfl, rfl⟩ | (refine rq ⟨rfl, rfl⟩ rfl ?_; repeat (first | exact trivial | exact AV.le.refl _ | exact AV.le.dat | exact AV.le.nils | exact AV.le.nilsf | exact AV.le.any _ | exact ObLe.refl _ | exact ⟨rfl, rfl⟩ | refine AV.le.tup ?_ | refine AV.le.agg ?_ | exact li | exact lb | exact ls | exact lk | exact ld | exact lz | refine ⟨?_, ?_⟩)) | (refine rqN ⟨rfl, rfl⟩ rfl ?_; repeat (first | exact trivial | exact AV.le.refl _ | exact AV.le.dat | exact AV.le.nils | exact AV.le.nilsf | exact AV.le.any _ | exact ObLe.refl _ | exact ⟨rfl, rfl⟩ | refine AV.le.tup ?_ | refine AV.le.agg ?_ | exact li | exact lb | exact ls | exact lk | exact ld | exact lz | refine ⟨?_, ?_⟩))
        · exact absurd h1 (by simp)
      | some x =>
        rw [hvo] at hval
        simp only at hval
        repeat (first | refine wk hT rfl rfl ?_ | refine wd hT rfl rfl rfl ?_ | refine wz hT rfl ?_ | refine AWd_nil ?_ | refine AWk_nil ?_ | refine wh hT rfl rfl rfl rfl ?_ | refine wg hT rfl rfl rfl rfl rfl ?_ | refine AW_seq ?_ | refine AW_region ?_ | refine wx mixed ?_ | refine AW_block ?_ | refine AW_skip ?_ | refine AW_exit ?_ | refine AW_ret ?_)
        first | refine AWk_op (callS0 rfl rfl (hval) rfl rfl rfl) rfl ?_ | refine AWd_op (callS0 rfl rfl (hval) rfl rfl rfl) rfl rfl ?_ | refine AWk_op (callS0L rfl rfl (hval) rfl (by repeat (first | exact trivial | exact AV.le.refl _ | exact AV.le.dat | exact AV.le.nils | exact AV.le.nilsf | exact AV.le.any _ | exact ObLe.refl _ | exact ⟨rfl, rfl⟩ | refine AV.le.tup ?_ | refine AV.le.agg ?_ | exact li | exact lb | exact ls | exact lk | exact ld | exact lz | refine ⟨?_, ?_⟩)) rfl rfl) rfl ?_ | refine AWd_op (callS0L rfl rfl (hval) rfl (by repeat (first | exact trivial | exact AV.le.refl _ | exact AV.le.dat | exact AV.le.nils | exact AV.le.nilsf | exact AV.le.any _ | exact ObLe.refl _ | exact ⟨rfl, rfl⟩ | refine AV.le.tup ?_ | refine AV.le.agg ?_ | exact li | exact lb | exact ls | exact lk | exact ld | exact lz | refine ⟨?_, ?_⟩)) rfl rfl) rfl rfl ?_
        repeat (first | refine wk hT rfl rfl ?_ | refine wd hT rfl rfl rfl ?_ | refine wz hT rfl ?_ | refine AWd_nil ?_ | refine AWk_nil ?_ | refine wh hT rfl rfl rfl rfl ?_ | refine wg hT rfl rfl rfl rfl rfl ?_ | refine AW_seq ?_ | refine AW_region ?_ | refine wx mixed ?_ | refine AW_block ?_ | refine AW_skip ?_ | refine AW_exit ?_ | refine AW_ret ?_)
        refine AW_condL rfl (fun h1 => ?_) (fun h1 => ?_)
        · exact absurd h1 (by simp)
        · repeat (first | refine wk hT rfl rfl ?_ | refine wd hT rfl rfl rfl ?_ | refine wz hT rfl ?_ | refine AWd_nil ?_ | refine AWk_nil ?_ | refine wh hT rfl rfl rfl rfl ?_ | refine wg hT rfl rfl rfl rfl rfl ?_ | refine AW_seq ?_ | refine AW_region ?_ | refine wx mixed ?_ | refine AW_block ?_ | refine AW_skip ?_ | refine AW_exit ?_ | refine AW_ret ?_)
          refine AW_condL rfl (fun h2 => ?_) (fun h2 => ?_)
          · have h2' : x = v := by simpa using h2
            rw [isF, if_pos h2']
            repeat (first | refine wk hT rfl rfl ?_ | refine wd hT rfl rfl rfl ?_ | refine wz hT rfl ?_ | refine AWd_nil ?_ | refine AWk_nil ?_ | refine wh hT rfl rfl rfl rfl ?_ | refine wg hT rfl rfl rfl rfl rfl ?_ | refine AW_seq ?_ | refine AW_region ?_ | refine wx mixed ?_ | refine AW_block ?_ | refine AW_skip ?_ | refine AW_exit ?_ | refine AW_ret ?_)
            first | exact rx ⟨rfl, rfl⟩ | exact rxN ⟨rfl, rfl⟩ | (refine rq ⟨rfl, rfl⟩ rfl ?_; repeat (first | exact trivial | exact AV.le.refl _ | exact AV.le.dat | exact AV.le.nils | exact AV.le.nilsf | exact AV.le.any _ | exact ObLe.refl _ | exact ⟨rfl, rfl⟩ | refine AV.le.tup ?_ | refine AV.le.agg ?_ | exact li | exact lb | exact ls | exact lk | exact ld | exact lz | refine ⟨?_, ?_⟩)) | (refine rqN ⟨rfl, rfl⟩ rfl ?_; repeat (first | exact trivial | exact AV.le.refl _ | exact AV.le.dat | exact AV.le.nils | exact AV.le.nilsf | exact AV.le.any _ | exact ObLe.refl _ | exact ⟨rfl, rfl⟩ | refine AV.le.tup ?_ | refine AV.le.agg ?_ | exact li | exact lb | exact ls | exact lk | exact ld | exact lz | refine ⟨?_, ?_⟩))
          · have h2' : ¬ x = v := by simpa using h2
            rw [isF, if_neg h2']
            repeat (first | refine wk hT rfl rfl ?_ | refine wd hT rfl rfl rfl ?_ | refine wz hT rfl ?_ | refine AWd_nil ?_ | refine AWk_nil ?_ | refine wh hT rfl rfl rfl rfl ?_ | refine wg hT rfl rfl rfl rfl rfl ?_ | refine AW_seq ?_ | refine AW_region ?_ | refine wx mixed ?_ | refine AW_block ?_ | refine AW_skip ?_ | refine AW_exit ?_ | refine AW_ret ?_)
            first | exact rx ⟨rfl, rfl⟩ | exact rxN ⟨rfl, rfl⟩ | (refine rq ⟨rfl, rfl⟩ rfl ?_; repeat (first | exact trivial | exact AV.le.refl _ | exact AV.le.dat | exact AV.le.nils | exact AV.le.nilsf | exact AV.le.any _ | exact ObLe.refl _ | exact ⟨rfl, rfl⟩ | refine AV.le.tup ?_ | refine AV.le.agg ?_ | exact li | exact lb | exact ls | exact lk | exact ld | exact lz | refine ⟨?_, ?_⟩)) | (refine rqN ⟨rfl, rfl⟩ rfl ?_; repeat (first | exact trivial | exact AV.le.refl _ | exact AV.le.dat | exact AV.le.nils | exact AV.le.nilsf | exact AV.le.any _ | exact ObLe.refl _ | exact ⟨rfl, rfl⟩ | refine AV.le.tup ?_ | refine AV.le.agg ?_ | exact li | exact lb | exact ls | exact lk | exact ld | exact lz | refine ⟨?_, ?_⟩))
    · have hk1 : ¬ k = 1 := by simpa using hk
      rw [if_neg hk1]
      have hall : ∀ x, x ∈ kids → validC d x = true := by
        rcases hinv with h | h | h
        · exact absurd h.1 hk1
        · obtain ⟨_, x, rfl, hx⟩ := h
          intro y hy
          rw [List.mem_singleton.1 hy]; exact hx
        · exact h.2
      generalize hfs : kids.map (fun x => forcedF l d x) = fs
      have hfl : fs.length = kids.length := by rw [← hfs]; simp
      have hfr : ∀ i, (hi : i < fs.length) → fs[i] = 0 ∨ fs[i] = 1 ∨ fs[i] = 2 := fun i hi => by
        subst hfs
        rw [List.getElem_map]
        have := forcedF_range l d (kids[i]'(by simpa using hi))
        omega
      repeat (first | refine wk hT rfl rfl ?_ | refine wd hT rfl rfl rfl ?_ | refine wz hT rfl ?_ | refine AWd_nil ?_ | refine AWk_nil ?_ | refine wh hT rfl rfl rfl rfl ?_ | refine wg hT rfl rfl rfl rfl rfl ?_ | refine AW_seq ?_ | refine AW_region ?_ | refine wx mixed ?_ | refine AW_block ?_ | refine AW_skip ?_ | refine AW_exit ?_ | refine AW_ret ?_)
      refine AW_loopL (ι := Nat) (fun i => [(2, .ptr 0 0), (1, .d (.sl 2 (encRes l))), (7, .ptr 1 0), (8, .d (.int .i64 (i : Int)))]) (fun i => [.row ((encC (.mk k c v kids)).map .d), .row (cntR fs i)]) (fun i => i ≤ kids.length) (fun i => kids.length - i) 0 (by omega)
        ⟨.refl _, .refl _, .refl _, .refl _, trivial⟩ (HLe.refl _) ?_
      intro i hi
      unfold cntR
      repeat (first | refine wk hT rfl rfl ?_ | refine wd hT rfl rfl rfl ?_ | refine wz hT rfl ?_ | refine AWd_nil ?_ | refine AWk_nil ?_ | refine wh hT rfl rfl rfl rfl ?_ | refine wg hT rfl rfl rfl rfl rfl ?_ | refine AW_seq ?_ | refine AW_region ?_ | refine wx mixed ?_ | refine AW_block ?_ | refine AW_skip ?_ | refine AW_exit ?_ | refine AW_ret ?_)
      refine AW_condL rfl (fun h1 => ?_) (fun h1 => ?_)
      · have hlt : i < kids.length := by rw [hlen] at h1; simpa using h1
        have hwr : IntKind.i64.wrap ((i : Int) + 1) = ((i + 1 : Nat) : Int) := by rw [wrap_id (by omega)]; omega
        have hel := encCs_at hlt
        have hlt2 : i < fs.length := by omega
        have hc0 := cnt_take hlt2 0
        have hc1 := cnt_take hlt2 1
        have hc2 := cnt_take hlt2 2
        have hle0 := cnt_le 0 (fs.take i)
        have hle1 := cnt_le 1 (fs.take i)
        have hle2 := cnt_le 2 (fs.take i)
        have htl : (fs.take i).length ≤ kids.length := by rw [List.length_take]; omega
        have hfi := hfr i hlt2
        have hsp := ih kids[i] (List.getElem_mem hlt) (hall _ (List.getElem_mem hlt))
        have hfe : fs[i] = forcedF l d kids[i] := by subst hfs; simp
        rw [← hfe] at hsp
        generalize fs[i] = f at hsp hfi hc0 hc1 hc2
        generalize kids[i] = x at hel hsp
        obtain ⟨xk, xc, xv, xkids⟩ := x
        generalize cntF 0 (fs.take i) = n0 at hc0 hle0 ⊢
        generalize cntF 1 (fs.take i) = n1 at hc1 hle1 ⊢
        generalize cntF 2 (fs.take i) = n2 at hc2 hle2 ⊢
        repeat (first | refine wk hT rfl rfl ?_ | refine wd hT rfl rfl rfl ?_ | refine wz hT rfl ?_ | refine AWd_nil ?_ | refine AWk_nil ?_ | refine wh hT rfl rfl rfl rfl ?_ | refine wg hT rfl rfl rfl rfl rfl ?_ | refine AW_seq ?_ | refine AW_region ?_ | refine wx mixed ?_ | refine AW_block ?_ | refine AW_skip ?_ | refine AW_exit ?_ | refine AW_ret ?_)
        first | refine AWk_op (OpS_of_pure (indexAddr_ok hT rfl rfl rfl rfl (by omega) (hel))) rfl ?_ | refine AWd_op (OpS_of_pure (indexAddr_ok hT rfl rfl rfl rfl (by omega) (hel))) rfl rfl ?_
        repeat (first | refine wk hT rfl rfl ?_ | refine wd hT rfl rfl rfl ?_ | refine wz hT rfl ?_ | refine AWd_nil ?_ | refine AWk_nil ?_ | refine wh hT rfl rfl rfl rfl ?_ | refine wg hT rfl rfl rfl rfl rfl ?_ | refine AW_seq ?_ | refine AW_region ?_ | refine wx mixed ?_ | refine AW_block ?_ | refine AW_skip ?_ | refine AW_exit ?_ | refine AW_ret ?_)
        first | refine AWk_op (callS0 rfl rfl (hsp) rfl rfl rfl) rfl ?_ | refine AWd_op (callS0 rfl rfl (hsp) rfl rfl rfl) rfl rfl ?_ | refine AWk_op (callS0L rfl rfl (hsp) rfl (by repeat (first | exact trivial | exact AV.le.refl _ | exact AV.le.dat | exact AV.le.nils | exact AV.le.nilsf | exact AV.le.any _ | exact ObLe.refl _ | exact ⟨rfl, rfl⟩ | refine AV.le.tup ?_ | refine AV.le.agg ?_ | exact li | exact lb | exact ls | exact lk | exact ld | exact lz | refine ⟨?_, ?_⟩)) rfl rfl) rfl ?_ | refine AWd_op (callS0L rfl rfl (hsp) rfl (by repeat (first | exact trivial | exact AV.le.refl _ | exact AV.le.dat | exact AV.le.nils | exact AV.le.nilsf | exact AV.le.any _ | exact ObLe.refl _ | exact ⟨rfl, rfl⟩ | refine AV.le.tup ?_ | refine AV.le.agg ?_ | exact li | exact lb | exact ls | exact lk | exact ld | exact lz | refine ⟨?_, ?_⟩)) rfl rfl) rfl rfl ?_
        rcases hfi with rfl | rfl | rfl
        · refine AWk_op (OpS_of_pure (arrPtr_ok hT rfl rfl rfl rfl (by decide))) rfl ?_
          repeat (first | refine wk hT rfl rfl ?_ | refine wd hT rfl rfl rfl ?_ | refine wz hT rfl ?_ | refine AWd_nil ?_ | refine AWk_nil ?_ | refine wh hT rfl rfl rfl rfl ?_ | refine wg hT rfl rfl rfl rfl rfl ?_ | refine AW_seq ?_ | refine AW_region ?_ | refine wx mixed ?_ | refine AW_block ?_ | refine AW_skip ?_ | refine AW_exit ?_ | refine AW_ret ?_)
          refine AWk_op (OpS_of_pure (arrPtr_ok hT rfl rfl rfl rfl (by decide))) rfl ?_
          repeat (first | refine wk hT rfl rfl ?_ | refine wd hT rfl rfl rfl ?_ | refine wz hT rfl ?_ | refine AWd_nil ?_ | refine AWk_nil ?_ | refine wh hT rfl rfl rfl rfl ?_ | refine wg hT rfl rfl rfl rfl rfl ?_ | refine AW_seq ?_ | refine AW_region ?_ | refine wx mixed ?_ | refine AW_block ?_ | refine AW_skip ?_ | refine AW_exit ?_ | refine AW_ret ?_)
          exact ⟨i + 1, by omega, by omega, ⟨.refl _, .refl _, .refl _, .int hwr, trivial⟩, ⟨ObLe.refl _, ⟨.int (by rw [hc0, wrap_id (by omega)]; simp), .int (by rw [hc1]; simp), .int (by rw [hc2]; simp), trivial⟩, trivial⟩⟩
        · refine AWk_op (OpS_of_pure (arrPtr_ok hT rfl rfl rfl rfl (by decide))) rfl ?_
          repeat (first | refine wk hT rfl rfl ?_ | refine wd hT rfl rfl rfl ?_ | refine wz hT rfl ?_ | refine AWd_nil ?_ | refine AWk_nil ?_ | refine wh hT rfl rfl rfl rfl ?_ | refine wg hT rfl rfl rfl rfl rfl ?_ | refine AW_seq ?_ | refine AW_region ?_ | refine wx mixed ?_ | refine AW_block ?_ | refine AW_skip ?_ | refine AW_exit ?_ | refine AW_ret ?_)
          refine AWk_op (OpS_of_pure (arrPtr_ok hT rfl rfl rfl rfl (by decide))) rfl ?_
          repeat (first | refine wk hT rfl rfl ?_ | refine wd hT rfl rfl rfl ?_ | refine wz hT rfl ?_ | refine AWd_nil ?_ | refine AWk_nil ?_ | refine wh hT rfl rfl rfl rfl ?_ | refine wg hT rfl rfl rfl rfl rfl ?_ | refine AW_seq ?_ | refine AW_region ?_ | refine wx mixed ?_ | refine AW_block ?_ | refine AW_skip ?_ | refine AW_exit ?_ | refine AW_ret ?_)
          exact ⟨i + 1, by omega, by omega, ⟨.refl _, .refl _, .refl _, .int hwr, trivial⟩, ⟨ObLe.refl _, ⟨.int (by rw [hc0]; simp), .int (by rw [hc1, wrap_id (by omega)]; simp), .int (by rw [hc2]; simp), trivial⟩, trivial⟩⟩
        · refine AWk_op (OpS_of_pure (arrPtr_ok hT rfl rfl rfl rfl (by decide))) rfl ?_
          repeat (first | refine wk hT rfl rfl ?_ | refine wd hT rfl rfl rfl ?_ | refine wz hT rfl ?_ | refine AWd_nil ?_ | refine AWk_nil ?_ | refine wh hT rfl rfl rfl rfl ?_ | refine wg hT rfl rfl rfl rfl rfl ?_ | refine AW_seq ?_ | refine AW_region ?_ | refine wx mixed ?_ | refine AW_block ?_ | refine AW_skip ?_ | refine AW_exit ?_ | refine AW_ret ?_)
          refine AWk_op (OpS_of_pure (arrPtr_ok hT rfl rfl rfl rfl (by decide))) rfl ?_
          repeat (first | refine wk hT rfl rfl ?_ | refine wd hT rfl rfl rfl ?_ | refine wz hT rfl ?_ | refine AWd_nil ?_ | refine AWk_nil ?_ | refine wh hT rfl rfl rfl rfl ?_ | refine wg hT rfl rfl rfl rfl rfl ?_ | refine AW_seq ?_ | refine AW_region ?_ | refine wx mixed ?_ | refine AW_block ?_ | refine AW_skip ?_ | refine AW_exit ?_ | refine AW_ret ?_)
          exact ⟨i + 1, by omega, by omega, ⟨.refl _, .refl _, .refl _, .int hwr, trivial⟩, ⟨ObLe.refl _, ⟨.int (by rw [hc0]; simp), .int (by rw [hc1]; simp), .int (by rw [hc2, wrap_id (by omega)]; simp), trivial⟩, trivial⟩⟩
      · have hge : i = kids.length := by rw [hlen] at h1; simp at h1; omega
        subst hge
        rw [List.take_of_length_le (by omega)]
        have hle0 := cnt_le 0 fs
        have hle1 := cnt_le 1 fs
        have hle2 := cnt_le 2 fs
        have hm0 := @cnt_mem 0 fs
        have hm1 := @cnt_mem 1 fs
        have hm2 := @cnt_mem 2 fs
        rcases hinv with h | ⟨rfl, x, rfl, hx⟩ | ⟨hk34, _⟩
        · exact absurd h.1 hk1
        · have hf1 : fs = [forcedF l d x] := by rw [← hfs]; rfl
          have hf2 := forcedF_range l d x
          rw [if_pos rfl, hf1, notF]
          have hf3 := notF_cases hf2
          generalize forcedF l d x = f at hf2 hf3 ⊢
          have h3 : f = 0 ∨ f = 1 ∨ f = 2 := by omega
          repeat (first | refine wk hT rfl rfl ?_ | refine wd hT rfl rfl rfl ?_ | refine wz hT rfl ?_ | refine AWd_nil ?_ | refine AWk_nil ?_ | refine wh hT rfl rfl rfl rfl ?_ | refine wg hT rfl rfl rfl rfl rfl ?_ | refine AW_seq ?_ | refine AW_region ?_ | refine wx mixed ?_ | refine AW_block ?_ | refine AW_skip ?_ | refine AW_exit ?_ | refine AW_ret ?_)
          refine AW_condL rfl (fun h4 => ?_) (fun h4 => ?_)
          · rcases h3 with rfl | rfl | rfl
            · repeat (first | refine wk hT rfl rfl ?_ | refine wd hT rfl rfl rfl ?_ | refine wz hT rfl ?_ | refine AWd_nil ?_ | refine AWk_nil ?_ | refine wh hT rfl rfl rfl rfl ?_ | refine wg hT rfl rfl rfl rfl rfl ?_ | refine AW_seq ?_ | refine AW_region ?_ | refine wx mixed ?_ | refine AW_block ?_ | refine AW_skip ?_ | refine AW_exit ?_ | refine AW_ret ?_)
              refine AWk_op (OpS_of_pure (arrPtr_ok hT rfl rfl rfl rfl (by decide))) rfl ?_
              repeat (first | refine wk hT rfl rfl ?_ | refine wd hT rfl rfl rfl ?_ | refine wz hT rfl ?_ | refine AWd_nil ?_ | refine AWk_nil ?_ | refine wh hT rfl rfl rfl rfl ?_ | refine wg hT rfl rfl rfl rfl rfl ?_ | refine AW_seq ?_ | refine AW_region ?_ | refine wx mixed ?_ | refine AW_block ?_ | refine AW_skip ?_ | refine AW_exit ?_ | refine AW_ret ?_)
              refine AWk_op (OpS_of_pure (arrPtr_ok hT rfl rfl rfl rfl (by decide))) rfl ?_
              repeat (first | refine wk hT rfl rfl ?_ | refine wd hT rfl rfl rfl ?_ | refine wz hT rfl ?_ | refine AWd_nil ?_ | refine AWk_nil ?_ | refine wh hT rfl rfl rfl rfl ?_ | refine wg hT rfl rfl rfl rfl rfl ?_ | refine AW_seq ?_ | refine AW_region ?_ | refine wx mixed ?_ | refine AW_block ?_ | refine AW_skip ?_ | refine AW_exit ?_ | refine AW_ret ?_)
              exact rq ⟨rfl, rfl⟩ rfl (.int (by rw [hf3]; rfl))
            · repeat (first | refine wk hT rfl rfl ?_ | refine wd hT rfl rfl rfl ?_ | refine wz hT rfl ?_ | refine AWd_nil ?_ | refine AWk_nil ?_ | refine wh hT rfl rfl rfl rfl ?_ | refine wg hT rfl rfl rfl rfl rfl ?_ | refine AW_seq ?_ | refine AW_region ?_ | refine wx mixed ?_ | refine AW_block ?_ | refine AW_skip ?_ | refine AW_exit ?_ | refine AW_ret ?_)
              refine AWk_op (OpS_of_pure (arrPtr_ok hT rfl rfl rfl rfl (by decide))) rfl ?_
              repeat (first | refine wk hT rfl rfl ?_ | refine wd hT rfl rfl rfl ?_ | refine wz hT rfl ?_ | refine AWd_nil ?_ | refine AWk_nil ?_ | refine wh hT rfl rfl rfl rfl ?_ | refine wg hT rfl rfl rfl rfl rfl ?_ | refine AW_seq ?_ | refine AW_region ?_ | refine wx mixed ?_ | refine AW_block ?_ | refine AW_skip ?_ | refine AW_exit ?_ | refine AW_ret ?_)
              refine AWk_op (OpS_of_pure (arrPtr_ok hT rfl rfl rfl rfl (by decide))) rfl ?_
              repeat (first | refine wk hT rfl rfl ?_ | refine wd hT rfl rfl rfl ?_ | refine wz hT rfl ?_ | refine AWd_nil ?_ | refine AWk_nil ?_ | refine wh hT rfl rfl rfl rfl ?_ | refine wg hT rfl rfl rfl rfl rfl ?_ | refine AW_seq ?_ | refine AW_region ?_ | refine wx mixed ?_ | refine AW_block ?_ | refine AW_skip ?_ | refine AW_exit ?_ | refine AW_ret ?_)
              exact rq ⟨rfl, rfl⟩ rfl (.int (by rw [hf3]; rfl))
            · repeat (first | refine wk hT rfl rfl ?_ | refine wd hT rfl rfl rfl ?_ | refine wz hT rfl ?_ | refine AWd_nil ?_ | refine AWk_nil ?_ | refine wh hT rfl rfl rfl rfl ?_ | refine wg hT rfl rfl rfl rfl rfl ?_ | refine AW_seq ?_ | refine AW_region ?_ | refine wx mixed ?_ | refine AW_block ?_ | refine AW_skip ?_ | refine AW_exit ?_ | refine AW_ret ?_)
              refine AWk_op (OpS_of_pure (arrPtr_ok hT rfl rfl rfl rfl (by decide))) rfl ?_
              repeat (first | refine wk hT rfl rfl ?_ | refine wd hT rfl rfl rfl ?_ | refine wz hT rfl ?_ | refine AWd_nil ?_ | refine AWk_nil ?_ | refine wh hT rfl rfl rfl rfl ?_ | refine wg hT rfl rfl rfl rfl rfl ?_ | refine AW_seq ?_ | refine AW_region ?_ | refine wx mixed ?_ | refine AW_block ?_ | refine AW_skip ?_ | refine AW_exit ?_ | refine AW_ret ?_)
              refine AWk_op (OpS_of_pure (arrPtr_ok hT rfl rfl rfl rfl (by decide))) rfl ?_
              repeat (first | refine wk hT rfl rfl ?_ | refine wd hT rfl rfl rfl ?_ | refine wz hT rfl ?_ | refine AWd_nil ?_ | refine AWk_nil ?_ | refine wh hT rfl rfl rfl rfl ?_ | refine wg hT rfl rfl rfl rfl rfl ?_ | refine AW_seq ?_ | refine AW_region ?_ | refine wx mixed ?_ | refine AW_block ?_ | refine AW_skip ?_ | refine AW_exit ?_ | refine AW_ret ?_)
              exact rq ⟨rfl, rfl⟩ rfl (.int (by rw [hf3]; rfl))
          · exact absurd h4 (by simp)
        · rcases hk34 with rfl | rfl
          · have hres : foldF 2 1 fs = if 0 < cntF 2 fs then 2 else if 0 < cntF 0 fs then 0 else 1 := by rw [foldF_eq (by decide)]; simp only [hm2, hm0]
            rw [if_neg (by decide), if_neg (by decide), if_neg (by decide), hres]
            generalize cntF 0 fs = n0
            generalize cntF 1 fs = n1
            generalize cntF 2 fs = n2
            repeat (first | refine wk hT rfl rfl ?_ | refine wd hT rfl rfl rfl ?_ | refine wz hT rfl ?_ | refine AWd_nil ?_ | refine AWk_nil ?_ | refine wh hT rfl rfl rfl rfl ?_ | refine wg hT rfl rfl rfl rfl rfl ?_ | refine AW_seq ?_ | refine AW_region ?_ | refine wx mixed ?_ | refine AW_block ?_ | refine AW_skip ?_ | refine AW_exit ?_ | refine AW_ret ?_)
            refine AW_condL rfl (fun h4 => ?_) (fun h4 => ?_)
            · exact absurd h4 (by simp)
            · repeat (first | refine wk hT rfl rfl ?_ | refine wd hT rfl rfl rfl ?_ | refine wz hT rfl ?_ | refine AWd_nil ?_ | refine AWk_nil ?_ | refine wh hT rfl rfl rfl rfl ?_ | refine wg hT rfl rfl rfl rfl rfl ?_ | refine AW_seq ?_ | refine AW_region ?_ | refine wx mixed ?_ | refine AW_block ?_ | refine AW_skip ?_ | refine AW_exit ?_ | refine AW_ret ?_)
              refine AWk_gop rfl rfl rfl (fun hg => ⟨(sg (C := True) hg).1, OpS_of_pure (arrPtr_ok hT rfl rfl rfl rfl (by decide))⟩) ?_
              repeat (first | refine wk hT rfl rfl ?_ | refine wd hT rfl rfl rfl ?_ | refine wz hT rfl ?_ | refine AWd_nil ?_ | refine AWk_nil ?_ | refine wh hT rfl rfl rfl rfl ?_ | refine wg hT rfl rfl rfl rfl rfl ?_ | refine AW_seq ?_ | refine AW_region ?_ | refine wx mixed ?_ | refine AW_block ?_ | refine AW_skip ?_ | refine AW_exit ?_ | refine AW_ret ?_)
              refine AWk_gop rfl rfl rfl (fun hg => ⟨(sg (C := True) hg).1, OpS_of_pure (arrPtr_ok hT rfl rfl rfl rfl (by decide))⟩) ?_
              repeat (first | refine wk hT rfl rfl ?_ | refine wd hT rfl rfl rfl ?_ | refine wz hT rfl ?_ | refine AWd_nil ?_ | refine AWk_nil ?_ | refine wh hT rfl rfl rfl rfl ?_ | refine wg hT rfl rfl rfl rfl rfl ?_ | refine AW_seq ?_ | refine AW_region ?_ | refine wx mixed ?_ | refine AW_block ?_ | refine AW_skip ?_ | refine AW_exit ?_ | refine AW_ret ?_)
              refine AWk_gop rfl rfl rfl (fun hg => ⟨(sg (C := True) hg).1, OpS_of_pure (arrPtr_ok hT rfl rfl rfl rfl (by decide))⟩) ?_
              repeat (first | refine wk hT rfl rfl ?_ | refine wd hT rfl rfl rfl ?_ | refine wz hT rfl ?_ | refine AWd_nil ?_ | refine AWk_nil ?_ | refine wh hT rfl rfl rfl rfl ?_ | refine wg hT rfl rfl rfl rfl rfl ?_ | refine AW_seq ?_ | refine AW_region ?_ | refine wx mixed ?_ | refine AW_block ?_ | refine AW_skip ?_ | refine AW_exit ?_ | refine AW_ret ?_)
              refine AW_condL rfl (fun h5 => ?_) (fun h5 => ?_)
              · have h5' : 0 < n2 := by simpa using h5
                rw [if_pos h5']
                repeat (first | refine wk hT rfl rfl ?_ | refine wd hT rfl rfl rfl ?_ | refine wz hT rfl ?_ | refine AWd_nil ?_ | refine AWk_nil ?_ | refine wh hT rfl rfl rfl rfl ?_ | refine wg hT rfl rfl rfl rfl rfl ?_ | refine AW_seq ?_ | refine AW_region ?_ | refine wx mixed ?_ | refine AW_block ?_ | refine AW_skip ?_ | refine AW_exit ?_ | refine AW_ret ?_)
                first | exact rx ⟨rfl, rfl⟩ | exact rxN ⟨rfl, rfl⟩ | (refine rq ⟨rfl, rfl⟩ rfl ?_; repeat (first | exact trivial | exact AV.le.refl _ | exact AV.le.dat | exact AV.le.nils | exact AV.le.nilsf | exact AV.le.any _ | exact ObLe.refl _ | exact ⟨rfl, rfl⟩ | refine AV.le.tup ?_ | refine AV.le.agg ?_ | exact li | exact lb | exact ls | exact lk | exact ld | exact lz | refine ⟨?_, ?_⟩)) | (refine rqN ⟨rfl, rfl⟩ rfl ?_; repeat (first | exact trivial | exact AV.le.refl _ | exact AV.le.dat | exact AV.le.nils | exact AV.le.nilsf | exact AV.le.any _ | exact ObLe.refl _ | exact ⟨rfl, rfl⟩ | refine AV.le.tup ?_ | refine AV.le.agg ?_ | exact li | exact lb | exact ls | exact lk | exact ld | exact lz | refine ⟨?_, ?_⟩))
              · have h5' : ¬ 0 < n2 := by simpa using h5
                rw [if_neg h5']
                repeat (first | refine wk hT rfl rfl ?_ | refine wd hT rfl rfl rfl ?_ | refine wz hT rfl ?_ | refine AWd_nil ?_ | refine AWk_nil ?_ | refine wh hT rfl rfl rfl rfl ?_ | refine wg hT rfl rfl rfl rfl rfl ?_ | refine AW_seq ?_ | refine AW_region ?_ | refine wx mixed ?_ | refine AW_block ?_ | refine AW_skip ?_ | refine AW_exit ?_ | refine AW_ret ?_)
                refine AWk_gop rfl rfl rfl (fun hg => ⟨(sg (C := True) hg).1, OpS_of_pure (arrPtr_ok hT rfl rfl rfl rfl (by decide))⟩) ?_
                repeat (first | refine wk hT rfl rfl ?_ | refine wd hT rfl rfl rfl ?_ | refine wz hT rfl ?_ | refine AWd_nil ?_ | refine AWk_nil ?_ | refine wh hT rfl rfl rfl rfl ?_ | refine wg hT rfl rfl rfl rfl rfl ?_ | refine AW_seq ?_ | refine AW_region ?_ | refine wx mixed ?_ | refine AW_block ?_ | refine AW_skip ?_ | refine AW_exit ?_ | refine AW_ret ?_)
                refine AWk_gop rfl rfl rfl (fun hg => ⟨(sg (C := True) hg).1, OpS_of_pure (arrPtr_ok hT rfl rfl rfl rfl (by decide))⟩) ?_
                repeat (first | refine wk hT rfl rfl ?_ | refine wd hT rfl rfl rfl ?_ | refine wz hT rfl ?_ | refine AWd_nil ?_ | refine AWk_nil ?_ | refine wh hT rfl rfl rfl rfl ?_ | refine wg hT rfl rfl rfl rfl rfl ?_ | refine AW_seq ?_ | refine AW_region ?_ | refine wx mixed ?_ | refine AW_block ?_ | refine AW_skip ?_ | refine AW_exit ?_ | refine AW_ret ?_)
                refine AW_condL rfl (fun h6 => ?_) (fun h6 => ?_)
                · have h6' : ¬ 0 < n0 := by simp at h6; omega
                  rw [if_neg h6']
                  repeat (first | refine wk hT rfl rfl ?_ | refine wd hT rfl rfl rfl ?_ | refine wz hT rfl ?_ | refine AWd_nil ?_ | refine AWk_nil ?_ | refine wh hT rfl rfl rfl rfl ?_ | refine wg hT rfl rfl rfl rfl rfl ?_ | refine AW_seq ?_ | refine AW_region ?_ | refine wx mixed ?_ | refine AW_block ?_ | refine AW_skip ?_ | refine AW_exit ?_ | refine AW_ret ?_)
                  first | exact rx ⟨rfl, rfl⟩ | exact rxN ⟨rfl, rfl⟩ | (refine rq ⟨rfl, rfl⟩ rfl ?_; repeat (first | exact trivial | exact AV.le.refl _ | exact AV.le.dat | exact AV.le.nils | exact AV.le.nilsf | exact AV.le.any _ | exact ObLe.refl _ | exact ⟨rfl, rfl⟩ | refine AV.le.tup ?_ | refine AV.le.agg ?_ | exact li | exact lb | exact ls | exact lk | exact ld | exact lz | refine ⟨?_, ?_⟩)) | (refine rqN ⟨rfl, rfl⟩ rfl ?_; repeat (first | exact trivial | exact AV.le.refl _ | exact AV.le.dat | exact AV.le.nils | exact AV.le.nilsf | exact AV.le.any _ | exact ObLe.refl _ | exact ⟨rfl, rfl⟩ | refine AV.le.tup ?_ | refine AV.le.agg ?_ | exact li | exact lb | exact ls | exact lk | exact ld | exact lz | refine ⟨?_, ?_⟩))
                · have h6' : 0 < n0 := by simp at h6; omega
                  rw [if_pos h6']
                  repeat (first | refine wk hT rfl rfl ?_ | refine wd hT rfl rfl rfl ?_ | refine wz hT rfl ?_ | refine AWd_nil ?_ | refine AWk_nil ?_ | refine wh hT rfl rfl rfl rfl ?_ | refine wg hT rfl rfl rfl rfl rfl ?_ | refine AW_seq ?_ | refine AW_region ?_ | refine wx mixed ?_ | refine AW_block ?_ | refine AW_skip ?_ | refine AW_exit ?_ | refine AW_ret ?_)
                  first | exact rx ⟨rfl, rfl⟩ | exact rxN ⟨rfl, rfl⟩ | (refine rq ⟨rfl, rfl⟩ rfl ?_; repeat (first | exact trivial | exact AV.le.refl _ | exact AV.le.dat | exact AV.le.nils | exact AV.le.nilsf | exact AV.le.any _ | exact ObLe.refl _ | exact ⟨rfl, rfl⟩ | refine AV.le.tup ?_ | refine AV.le.agg ?_ | exact li | exact lb | exact ls | exact lk | exact ld | exact lz | refine ⟨?_, ?_⟩)) | (refine rqN ⟨rfl, rfl⟩ rfl ?_; repeat (first | exact trivial | exact AV.le.refl _ | exact AV.le.dat | exact AV.le.nils | exact AV.le.nilsf | exact AV.le.any _ | exact ObLe.refl _ | exact ⟨rfl, rfl⟩ | refine AV.le.tup ?_ | refine AV.le.agg ?_ | exact li | exact lb | exact ls | exact lk | exact ld | exact lz | refine ⟨?_, ?_⟩))
          · have hres : foldF 1 2 fs = if 0 < cntF 1 fs then 1 else if 0 < cntF 0 fs then 0 else 2 := by rw [foldF_eq (by decide)]; simp only [hm1, hm0]
            rw [if_neg (by decide), if_pos rfl, if_pos rfl, hres]
            generalize cntF 0 fs = n0
            generalize cntF 1 fs = n1
            generalize cntF 2 fs = n2
            repeat (first | refine wk hT rfl rfl ?_ | refine wd hT rfl rfl rfl ?_ | refine wz hT rfl ?_ | refine AWd_nil ?_ | refine AWk_nil ?_ | refine wh hT rfl rfl rfl rfl ?_ | refine wg hT rfl rfl rfl rfl rfl ?_ | refine AW_seq ?_ | refine AW_region ?_ | refine wx mixed ?_ | refine AW_block ?_ | refine AW_skip ?_ | refine AW_exit ?_ | refine AW_ret ?_)
            refine AW_condL rfl (fun h4 => ?_) (fun h4 => ?_)
            · exact absurd h4 (by simp)
            · repeat (first | refine wk hT rfl rfl ?_ | refine wd hT rfl rfl rfl ?_ | refine wz hT rfl ?_ | refine AWd_nil ?_ | refine AWk_nil ?_ | refine wh hT rfl rfl rfl rfl ?_ | refine wg hT rfl rfl rfl rfl rfl ?_ | refine AW_seq ?_ | refine AW_region ?_ | refine wx mixed ?_ | refine AW_block ?_ | refine AW_skip ?_ | refine AW_exit ?_ | refine AW_ret ?_)
              refine AWk_gop rfl rfl rfl (fun hg => ⟨(sg (C := True) hg).1, OpS_of_pure (arrPtr_ok hT rfl rfl rfl rfl (by decide))⟩) ?_
              repeat (first | refine wk hT rfl rfl ?_ | refine wd hT rfl rfl rfl ?_ | refine wz hT rfl ?_ | refine AWd_nil ?_ | refine AWk_nil ?_ | refine wh hT rfl rfl rfl rfl ?_ | refine wg hT rfl rfl rfl rfl rfl ?_ | refine AW_seq ?_ | refine AW_region ?_ | refine wx mixed ?_ | refine AW_block ?_ | refine AW_skip ?_ | refine AW_exit ?_ | refine AW_ret ?_)
              refine AWk_gop rfl rfl rfl (fun hg => ⟨(sg (C := True) hg).1, OpS_of_pure (arrPtr_ok hT rfl rfl rfl rfl (by decide))⟩) ?_
              repeat (first | refine wk hT rfl rfl ?_ | refine wd hT rfl rfl rfl ?_ | refine wz hT rfl ?_ | refine AWd_nil ?_ | refine AWk_nil ?_ | refine wh hT rfl rfl rfl rfl ?_ | refine wg hT rfl rfl rfl rfl rfl ?_ | refine AW_seq ?_ | refine AW_region ?_ | refine wx mixed ?_ | refine AW_block ?_ | refine AW_skip ?_ | refine AW_exit ?_ | refine AW_ret ?_)
              refine AWk_gop rfl rfl rfl (fun hg => ⟨(sg (C := True) hg).1, OpS_of_pure (arrPtr_ok hT rfl rfl rfl rfl (by decide))⟩) ?_
              repeat (first | refine wk hT rfl rfl ?_ | refine wd hT rfl rfl rfl ?_ | refine wz hT rfl ?_ | refine AWd_nil ?_ | refine AWk_nil ?_ | refine wh hT rfl rfl rfl rfl ?_ | refine wg hT rfl rfl rfl rfl rfl ?_ | refine AW_seq ?_ | refine AW_region ?_ | refine wx mixed ?_ | refine AW_block ?_ | refine AW_skip ?_ | refine AW_exit ?_ | refine AW_ret ?_)
              refine AW_condL rfl (fun h5 => ?_) (fun h5 => ?_)
              · have h5' : n1 = 0 ∧ n0 = 0 := by simp at h5; omega
                rw [if_neg (by omega), if_neg (by omega)]
                repeat (first | refine wk hT rfl rfl ?_ | refine wd hT rfl rfl rfl ?_ | refine wz hT rfl ?_ | refine AWd_nil ?_ | refine AWk_nil ?_ | refine wh hT rfl rfl rfl rfl ?_ | refine wg hT rfl rfl rfl rfl rfl ?_ | refine AW_seq ?_ | refine AW_region ?_ | refine wx mixed ?_ | refine AW_block ?_ | refine AW_skip ?_ | refine AW_exit ?_ | refine AW_ret ?_)
                first | exact rx ⟨rfl, rfl⟩ | exact rxN ⟨rfl, rfl⟩ | (refine rq ⟨rfl, rfl⟩ rfl ?_; repeat (first | exact trivial | exact AV.le.refl _ | exact AV.le.dat | exact AV.le.nils | exact AV.le.nilsf | exact AV.le.any _ | exact ObLe.refl _ | exact ⟨rfl, rfl⟩ | refine AV.le.tup ?_ | refine AV.le.agg ?_ | exact li | exact lb | exact ls | exact lk | exact ld | exact lz | refine ⟨?_, ?_⟩)) | (refine rqN ⟨rfl, rfl⟩ rfl ?_; repeat (first | exact trivial | exact AV.le.refl _ | exact AV.le.dat | exact AV.le.nils | exact AV.le.nilsf | exact AV.le.any _ | exact ObLe.refl _ | exact ⟨rfl, rfl⟩ | refine AV.le.tup ?_ | refine AV.le.agg ?_ | exact li | exact lb | exact ls | exact lk | exact ld | exact lz | refine ⟨?_, ?_⟩))
              · have h5' : ¬ (n1 = 0 ∧ n0 = 0) := by intro hh; simp at h5; omega
                repeat (first | refine wk hT rfl rfl ?_ | refine wd hT rfl rfl rfl ?_ | refine wz hT rfl ?_ | refine AWd_nil ?_ | refine AWk_nil ?_ | refine wh hT rfl rfl rfl rfl ?_ | refine wg hT rfl rfl rfl rfl rfl ?_ | refine AW_seq ?_ | refine AW_region ?_ | refine wx mixed ?_ | refine AW_block ?_ | refine AW_skip ?_ | refine AW_exit ?_ | refine AW_ret ?_)
                refine AWk_gop rfl rfl rfl (fun hg => ⟨(sg (C := True) hg).1, OpS_of_pure (arrPtr_ok hT rfl rfl rfl rfl (by decide))⟩) ?_
                repeat (first | refine wk hT rfl rfl ?_ | refine wd hT rfl rfl rfl ?_ | refine wz hT rfl ?_ | refine AWd_nil ?_ | refine AWk_nil ?_ | refine wh hT rfl rfl rfl rfl ?_ | refine wg hT rfl rfl rfl rfl rfl ?_ | refine AW_seq ?_ | refine AW_region ?_ | refine wx mixed ?_ | refine AW_block ?_ | refine AW_skip ?_ | refine AW_exit ?_ | refine AW_ret ?_)
                refine AWk_gop rfl rfl rfl (fun hg => ⟨(sg (C := True) hg).1, OpS_of_pure (arrPtr_ok hT rfl rfl rfl rfl (by decide))⟩) ?_
                repeat (first | refine wk hT rfl rfl ?_ | refine wd hT rfl rfl rfl ?_ | refine wz hT rfl ?_ | refine AWd_nil ?_ | refine AWk_nil ?_ | refine wh hT rfl rfl rfl rfl ?_ | refine wg hT rfl rfl rfl rfl rfl ?_ | refine AW_seq ?_ | refine AW_region ?_ | refine wx mixed ?_ | refine AW_block ?_ | refine AW_skip ?_ | refine AW_exit ?_ | refine AW_ret ?_)
                refine AW_condL rfl (fun h6 => ?_) (fun h6 => ?_)
                · have h6' : 0 < n1 := by simp at h6; omega
                  rw [if_pos h6']
                  repeat (first | refine wk hT rfl rfl ?_ | refine wd hT rfl rfl rfl ?_ | refine wz hT rfl ?_ | refine AWd_nil ?_ | refine AWk_nil ?_ | refine wh hT rfl rfl rfl rfl ?_ | refine wg hT rfl rfl rfl rfl rfl ?_ | refine AW_seq ?_ | refine AW_region ?_ | refine wx mixed ?_ | refine AW_block ?_ | refine AW_skip ?_ | refine AW_exit ?_ | refine AW_ret ?_)
                  first | exact rx ⟨rfl, rfl⟩ | exact rxN ⟨rfl, rfl⟩ | (refine rq ⟨rfl, rfl⟩ rfl ?_; repeat (first | exact trivial | exact AV.le.refl _ | exact AV.le.dat | exact AV.le.nils | exact AV.le.nilsf | exact AV.le.any _ | exact ObLe.refl _ | exact ⟨rfl, rfl⟩ | refine AV.le.tup ?_ | refine AV.le.agg ?_ | exact li | exact lb | exact ls | exact lk | exact ld | exact lz | refine ⟨?_, ?_⟩)) | (refine rqN ⟨rfl, rfl⟩ rfl ?_; repeat (first | exact trivial | exact AV.le.refl _ | exact AV.le.dat | exact AV.le.nils | exact AV.le.nilsf | exact AV.le.any _ | exact ObLe.refl _ | exact ⟨rfl, rfl⟩ | refine AV.le.tup ?_ | refine AV.le.agg ?_ | exact li | exact lb | exact ls | exact lk | exact ld | exact lz | refine ⟨?_, ?_⟩))
                · have h6' : ¬ 0 < n1 := by simp at h6; omega
                  rw [if_neg h6', if_pos (by omega)]
                  repeat (first | refine wk hT rfl rfl ?_ | refine wd hT rfl rfl rfl ?_ | refine wz hT rfl ?_ | refine AWd_nil ?_ | refine AWk_nil ?_ | refine wh hT rfl rfl rfl rfl ?_ | refine wg hT rfl rfl rfl rfl rfl ?_ | refine AW_seq ?_ | refine AW_region ?_ | refine wx mixed ?_ | refine AW_block ?_ | refine AW_skip ?_ | refine AW_exit ?_ | refine AW_ret ?_)
                  first | exact rx ⟨rfl, rfl⟩ | exact rxN ⟨rfl, rfl⟩ | (refine rq ⟨rfl, rfl⟩ rfl ?_; repeat (first | exact trivial | exact AV.le.refl _ | exact AV.le.dat | exact AV.le.nils | exact AV.le.nilsf | exact AV.le.any _ | exact ObLe.refl _ | exact ⟨rfl, rfl⟩ | refine AV.le.tup ?_ | refine AV.le.agg ?_ | exact li | exact lb | exact ls | exact lk | exact ld | exact lz | refine ⟨?_, ?_⟩)) | (refine rqN ⟨rfl, rfl⟩ rfl ?_; repeat (first | exact trivial | exact AV.le.refl _ | exact AV.le.dat | exact AV.le.nils | exact AV.le.nilsf | exact AV.le.any _ | exact ObLe.refl _ | exact ⟨rfl, rfl⟩ | refine AV.le.tup ?_ | refine AV.le.agg ?_ | exact li | exact lb | exact ls | exact lk | exact ld | exact lz | refine ⟨?_, ?_⟩))
end Tdoc
/- The reference's Holds and Forced. -/
set_option linter.unusedVariables false
set_option linter.unusedSimpArgs false
namespace Tdoc
open Go Go.Proofs

theorem cntB_take {l : List Bool} {i : Nat} (h : i < l.length) : (l.take (i + 1)).count true = (l.take i).count true + if l[i] = true then 1 else 0 := by
  rw [List.take_succ_eq_append_getElem h, List.count_append, List.count_singleton]
  simp [beq_iff_eq]
theorem cntB_any (l : List Bool) : (0 < l.count true) ↔ l.any id = true := by rw [List.count_pos_iff, List.any_eq_true]; simp
theorem cntB_all : ∀ (l : List Bool), (l.count true = l.length) ↔ (l.any fun b => !b) = false
  | [] => by simp
  | b :: l => by
    have ih := cntB_all l
    have hle := List.count_le_length (a := true) (l := l)
    cases b with
    | true => simp only [List.count_cons_self, List.length_cons, List.any_cons, Bool.not_true, Bool.false_or]; rw [← ih]; omega
    | false => simp [List.count_cons_of_ne]; omega

set_option maxHeartbeats 8000000 in
set_option maxRecDepth 100000 in
theorem holdsR_spec (l : List Res) (hl : l.length ≤ 1000000) : ∀ (d : Nat) (c : Cond), validC d c = true → smallC c → Spec Tryz.prog 64 [cAV c, .d (.sl 2 (encRes l))] [] (fun r h' => r = .d (.bool (holdsF l d c)) ∧ h' = [])
  | 0, c, hv, _ => by simp [validC] at hv
  | d + 1, .mk k c v kids, hv, hs => by
    have hlen := encCs_length kids
    have hs1 := hs.1
    have ih : ∀ x, x ∈ kids → validC d x = true → Spec Tryz.prog 64 [cAV x, .d (.sl 2 (encRes l))] [] (fun r h' => r = .d (.bool (holdsF l d x)) ∧ h' = []) := fun x hx hvx => holdsR_spec l hl d x hvx (smallCs_at hs.2 x hx)
    have hval := value_spec l c hl
    have hinv := validC_inv hv
    rw [holdsF]
    refine Spec_of_body hT Tryz.func64 rfl rfl rfl rfl ?_
    intro E hE
    repeat (first | refine wk hT rfl rfl ?_ | refine wd hT rfl rfl rfl ?_ | refine wz hT rfl ?_ | refine AWd_nil ?_ | refine AWk_nil ?_ | refine wh hT rfl rfl rfl rfl ?_ | refine wg hT rfl rfl rfl rfl rfl ?_ | refine AW_seq ?_ | refine AW_region ?_ | refine wx mixed ?_ | refine AW_block ?_ | refine AW_skip ?_ | refine AW_exit ?_ | refine AW_ret ?_)
    refine AW_condL rfl (fun hk => ?_) (fun hk => ?_)
    · have hk' : k = 1 := by simpa using hk
      rw [if_pos hk']
      have hH : isH v (valOf c l) = ((valR c l).1 == v) := by
        unfold valR
        cases valOf c l with
        | none => simp only [isH]; rw [Bool.eq_iff_iff]; simp; omega
        | some x => simp only [isH]
      rw [hH]
      generalize valR c l = q at hval
      obtain ⟨q1, q2⟩ := q
      simp only at hval ⊢
      repeat (first | refine wk hT rfl rfl ?_ | refine wd hT rfl rfl rfl ?_ | refine wz hT rfl ?_ | refine AWd_nil ?_ | refine AWk_nil ?_ | refine wh hT rfl rfl rfl rfl ?_ | refine wg hT rfl rfl rfl rfl rfl ?_ | refine AW_seq ?_ | refine AW_region ?_ | refine wx mixed ?_ | refine AW_block ?_ | refine AW_skip ?_ | refine AW_exit ?_ | refine AW_ret ?_)
      first | refine AWk_op (callS0 rfl rfl (hval) rfl rfl rfl) rfl ?_ | refine AWd_op (callS0 rfl rfl (hval) rfl rfl rfl) rfl rfl ?_ | refine AWk_op (callS0L rfl rfl (hval) rfl (by repeat (first | exact trivial | exact AV.le.refl _ | exact AV.le.dat | exact AV.le.nils | exact AV.le.nilsf | exact AV.le.any _ | exact ObLe.refl _ | exact ⟨rfl, rfl⟩ | refine AV.le.tup ?_ | refine AV.le.agg ?_ | exact li | exact lb | exact ls | exact lk | exact ld | exact lz | refine ⟨?_, ?_⟩)) rfl rfl) rfl ?_ | refine AWd_op (callS0L rfl rfl (hval) rfl (by repeat (first | exact trivial | exact AV.le.refl _ | exact AV.le.dat | exact AV.le.nils | exact AV.le.nilsf | exact AV.le.any _ | exact ObLe.refl _ | exact ⟨rfl, rfl⟩ | refine AV.le.tup ?_ | refine AV.le.agg ?_ | exact li | exact lb | exact ls | exact lk | exact ld | exact lz | refine ⟨?_, ?_⟩)) rfl rfl) rfl rfl ?_
      repeat (first | refine wk hT rfl rfl ?_ | refine wd hT rfl rfl rfl ?_ | refine wz hT rfl ?_ | refine AWd_nil ?_ | refine AWk_nil ?_ | refine wh hT rfl rfl rfl rfl ?_ | refine wg hT rfl rfl rfl rfl rfl ?_ | refine AW_seq ?_ | refine AW_region ?_ | refine wx mixed ?_ | refine AW_block ?_ | refine AW_skip ?_ | refine AW_exit ?_ | refine AW_ret ?_)
      first | exact rx ⟨rfl, rfl⟩ | exact rxN ⟨rfl, rfl⟩ | (refine rq ⟨rfl, rfl⟩ rfl ?_; repeat (first | exact trivial | exact AV.le.refl _ | exact AV.le.dat | exact AV.le.nils | exact AV.le.nilsf | exact AV.le.any _ | exact ObLe.refl _ | exact ⟨rfl, rfl⟩ | refine AV.le.tup ?_ | refine AV.le.agg ?_ | exact li | exact lb | exact ls | exact lk | exact ld | exact lz | refine ⟨?_, ?_⟩)) | (refine rqN ⟨rfl, rfl⟩ rfl ?_; repeat (first | exact trivial | exact AV.le.refl _ | exact AV.le.dat | exact AV.le.nils | exact AV.le.nilsf | exact AV.le.any _ | exact ObLe.refl _ | exact ⟨rfl, rfl⟩ | refine AV.le.tup ?_ | refine AV.le.agg ?_ | exact li | exact lb | exact ls | exact lk | exact ld | exact lz | refine ⟨?_, ?_⟩))
    · have hk1 : ¬ k = 1 := by simpa using hk
      rw [if_neg hk1]
      repeat (first | refine wk hT rfl rfl ?_ | refine wd hT rfl rfl rfl ?_ | refine wz hT rfl ?_ | refine AWd_nil ?_ | refine AWk_nil ?_ | refine wh hT rfl rfl rfl rfl ?_ | refine wg hT rfl rfl rfl rfl rfl ?_ | refine AW_seq ?_ | refine AW_region ?_ | refine wx mixed ?_ | refine AW_block ?_ | refine AW_skip ?_ | refine AW_exit ?_ | refine AW_ret ?_)
      refine AW_condL rfl (fun hk2 => ?_) (fun hk2 => ?_)
      · have hk2' : k = 2 := by simpa using hk2
        rw [if_pos hk2']
        rcases hinv with h | ⟨_, x, rfl, hx⟩ | ⟨h, _⟩
        · exact absurd h.1 hk1
        · have hsp := ih x (List.mem_singleton.2 rfl) hx
          have hel : (encCs [x])[((0 : Int)).toNat]? = some (encC x) := by simp [encCs]
          rw [List.map_cons, List.map_nil, List.headD_cons]
          generalize holdsF l d x = b at hsp
          obtain ⟨xk, xc, xv, xkids⟩ := x
          repeat (first | refine wk hT rfl rfl ?_ | refine wd hT rfl rfl rfl ?_ | refine wz hT rfl ?_ | refine AWd_nil ?_ | refine AWk_nil ?_ | refine wh hT rfl rfl rfl rfl ?_ | refine wg hT rfl rfl rfl rfl rfl ?_ | refine AW_seq ?_ | refine AW_region ?_ | refine wx mixed ?_ | refine AW_block ?_ | refine AW_skip ?_ | refine AW_exit ?_ | refine AW_ret ?_)
          first | refine AWk_op (OpS_of_pure (indexAddr_ok hT rfl rfl rfl rfl (by omega) (hel))) rfl ?_ | refine AWd_op (OpS_of_pure (indexAddr_ok hT rfl rfl rfl rfl (by omega) (hel))) rfl rfl ?_
          repeat (first | refine wk hT rfl rfl ?_ | refine wd hT rfl rfl rfl ?_ | refine wz hT rfl ?_ | refine AWd_nil ?_ | refine AWk_nil ?_ | refine wh hT rfl rfl rfl rfl ?_ | refine wg hT rfl rfl rfl rfl rfl ?_ | refine AW_seq ?_ | refine AW_region ?_ | refine wx mixed ?_ | refine AW_block ?_ | refine AW_skip ?_ | refine AW_exit ?_ | refine AW_ret ?_)
          first | refine AWk_op (callS0 rfl rfl (hsp) rfl rfl rfl) rfl ?_ | refine AWd_op (callS0 rfl rfl (hsp) rfl rfl rfl) rfl rfl ?_ | refine AWk_op (callS0L rfl rfl (hsp) rfl (by repeat (first | exact trivial | exact AV.le.refl _ | exact AV.le.dat | exact AV.le.nils | exact AV.le.nilsf | exact AV.le.any _ | exact ObLe.refl _ | exact ⟨rfl, rfl⟩ | refine AV.le.tup ?_ | refine AV.le.agg ?_ | exact li | exact lb | exact ls | exact lk | exact ld | exact lz | refine ⟨?_, ?_⟩)) rfl rfl) rfl ?_ | refine AWd_op (callS0L rfl rfl (hsp) rfl (by repeat (first | exact trivial | exact AV.le.refl _ | exact AV.le.dat | exact AV.le.nils | exact AV.le.nilsf | exact AV.le.any _ | exact ObLe.refl _ | exact ⟨rfl, rfl⟩ | refine AV.le.tup ?_ | refine AV.le.agg ?_ | exact li | exact lb | exact ls | exact lk | exact ld | exact lz | refine ⟨?_, ?_⟩)) rfl rfl) rfl rfl ?_
          repeat (first | refine wk hT rfl rfl ?_ | refine wd hT rfl rfl rfl ?_ | refine wz hT rfl ?_ | refine AWd_nil ?_ | refine AWk_nil ?_ | refine wh hT rfl rfl rfl rfl ?_ | refine wg hT rfl rfl rfl rfl rfl ?_ | refine AW_seq ?_ | refine AW_region ?_ | refine wx mixed ?_ | refine AW_block ?_ | refine AW_skip ?_ | refine AW_exit ?_ | refine AW_ret ?_)
          first | exact rx ⟨rfl, rfl⟩ | exact rxN ⟨rfl, rfl⟩ | (refine rq ⟨rfl, rfl⟩ rfl ?_; repeat (first | exact trivial | exact AV.le.refl _ | exact AV.le.dat | exact AV.le.nils | exact AV.le.nilsf | exact AV.le.any _ | exact ObLe.refl _ | exact ⟨rfl, rfl⟩ | refine AV.le.tup ?_ | refine AV.le.agg ?_ | exact li | exact lb | exact ls | exact lk | exact ld | exact lz | refine ⟨?_, ?_⟩)) | (refine rqN ⟨rfl, rfl⟩ rfl ?_; repeat (first | exact trivial | exact AV.le.refl _ | exact AV.le.dat | exact AV.le.nils | exact AV.le.nilsf | exact AV.le.any _ | exact ObLe.refl _ | exact ⟨rfl, rfl⟩ | refine AV.le.tup ?_ | refine AV.le.agg ?_ | exact li | exact lb | exact ls | exact lk | exact ld | exact lz | refine ⟨?_, ?_⟩))
        · omega
      · have hk2' : ¬ k = 2 := by simpa using hk2
        rw [if_neg hk2']
        obtain ⟨hk34, hall⟩ : (k = 3 ∨ k = 4) ∧ ∀ x, x ∈ kids → validC d x = true := by
          rcases hinv with h | h | h
          · exact absurd h.1 hk1
          · exact absurd h.1 hk2'
          · exact h
        have e1 : (kids.any fun x => !holdsF l d x) = ((kids.map fun x => holdsF l d x).any fun b => !b) := by rw [List.any_map]; rfl
        have e2 : (kids.any fun x => holdsF l d x) = ((kids.map fun x => holdsF l d x).any id) := by rw [List.any_map]; rfl
        rw [e1, e2]
        generalize hfs : (kids.map fun x => holdsF l d x) = fs
        have hfl : fs.length = kids.length := by rw [← hfs]; simp
        have hidx : ∀ i, (hi : i < kids.length) → fs[i]'(by omega) = holdsF l d kids[i] := fun i hi => by subst hfs; simp
        repeat (first | refine wk hT rfl rfl ?_ | refine wd hT rfl rfl rfl ?_ | refine wz hT rfl ?_ | refine AWd_nil ?_ | refine AWk_nil ?_ | refine wh hT rfl rfl rfl rfl ?_ | refine wg hT rfl rfl rfl rfl rfl ?_ | refine AW_seq ?_ | refine AW_region ?_ | refine wx mixed ?_ | refine AW_block ?_ | refine AW_skip ?_ | refine AW_exit ?_ | refine AW_ret ?_)
        refine AW_loopL (ι := Nat) (fun i => [(2, .ptr 0 0), (1, .d (.sl 2 (encRes l))), (7, .d (.int .i64 ((fs.take i).count true : Nat))), (8, .d (.int .i64 (i : Int)))]) (fun i => [.row ((encC (.mk k c v kids)).map .d)]) (fun i => i ≤ kids.length) (fun i => kids.length - i) 0 (by omega)
          ⟨.refl _, .refl _, .refl _, .refl _, trivial⟩ (HLe.refl _) ?_
        intro i hi
        repeat (first | refine wk hT rfl rfl ?_ | refine wd hT rfl rfl rfl ?_ | refine wz hT rfl ?_ | refine AWd_nil ?_ | refine AWk_nil ?_ | refine wh hT rfl rfl rfl rfl ?_ | refine wg hT rfl rfl rfl rfl rfl ?_ | refine AW_seq ?_ | refine AW_region ?_ | refine wx mixed ?_ | refine AW_block ?_ | refine AW_skip ?_ | refine AW_exit ?_ | refine AW_ret ?_)
        refine AW_condL rfl (fun h1 => ?_) (fun h1 => ?_)
        · have hlt : i < kids.length := by rw [hlen] at h1; simpa using h1
          have hwr : IntKind.i64.wrap ((i : Int) + 1) = ((i + 1 : Nat) : Int) := by rw [wrap_id (by omega)]; omega
          have hel := encCs_at hlt
          have hc := cntB_take (l := fs) (i := i) (by omega)
          have hle := List.count_le_length (a := true) (l := fs.take i)
          rw [List.length_take] at hle
          have hsp := ih kids[i] (List.getElem_mem hlt) (hall _ (List.getElem_mem hlt))
          rw [← hidx i hlt] at hsp
          generalize fs[i] = b at hsp hc
          generalize kids[i] = x at hel hsp
          obtain ⟨xk, xc, xv, xkids⟩ := x
          generalize (fs.take i).count true = n at hc hle ⊢
          repeat (first | refine wk hT rfl rfl ?_ | refine wd hT rfl rfl rfl ?_ | refine wz hT rfl ?_ | refine AWd_nil ?_ | refine AWk_nil ?_ | refine wh hT rfl rfl rfl rfl ?_ | refine wg hT rfl rfl rfl rfl rfl ?_ | refine AW_seq ?_ | refine AW_region ?_ | refine wx mixed ?_ | refine AW_block ?_ | refine AW_skip ?_ | refine AW_exit ?_ | refine AW_ret ?_)
          first | refine AWk_op (OpS_of_pure (indexAddr_ok hT rfl rfl rfl rfl (by omega) (hel))) rfl ?_ | refine AWd_op (OpS_of_pure (indexAddr_ok hT rfl rfl rfl rfl (by omega) (hel))) rfl rfl ?_
          repeat (first | refine wk hT rfl rfl ?_ | refine wd hT rfl rfl rfl ?_ | refine wz hT rfl ?_ | refine AWd_nil ?_ | refine AWk_nil ?_ | refine wh hT rfl rfl rfl rfl ?_ | refine wg hT rfl rfl rfl rfl rfl ?_ | refine AW_seq ?_ | refine AW_region ?_ | refine wx mixed ?_ | refine AW_block ?_ | refine AW_skip ?_ | refine AW_exit ?_ | refine AW_ret ?_)
          first | refine AWk_op (callS0 rfl rfl (hsp) rfl rfl rfl) rfl ?_ | refine AWd_op (callS0 rfl rfl (hsp) rfl rfl rfl) rfl rfl ?_ | refine AWk_op (callS0L rfl rfl (hsp) rfl (by repeat (first | exact trivial | exact AV.le.refl _ | exact AV.le.dat | exact AV.le.nils | exact AV.le.nilsf | exact AV.le.any _ | exact ObLe.refl _ | exact ⟨rfl, rfl⟩ | refine AV.le.tup ?_ | refine AV.le.agg ?_ | exact li | exact lb | exact ls | exact lk | exact ld | exact lz | refine ⟨?_, ?_⟩)) rfl rfl) rfl ?_ | refine AWd_op (callS0L rfl rfl (hsp) rfl (by repeat (first | exact trivial | exact AV.le.refl _ | exact AV.le.dat | exact AV.le.nils | exact AV.le.nilsf | exact AV.le.any _ | exact ObLe.refl _ | exact ⟨rfl, rfl⟩ | refine AV.le.tup ?_ | refine AV.le.agg ?_ | exact li | exact lb | exact ls | exact lk | exact ld | exact lz | refine ⟨?_, ?_⟩)) rfl rfl) rfl rfl ?_
          repeat (first | refine wk hT rfl rfl ?_ | refine wd hT rfl rfl rfl ?_ | refine wz hT rfl ?_ | refine AWd_nil ?_ | refine AWk_nil ?_ | refine wh hT rfl rfl rfl rfl ?_ | refine wg hT rfl rfl rfl rfl rfl ?_ | refine AW_seq ?_ | refine AW_region ?_ | refine wx mixed ?_ | refine AW_block ?_ | refine AW_skip ?_ | refine AW_exit ?_ | refine AW_ret ?_)
          refine AW_condL rfl (fun h2 => ?_) (fun h2 => ?_)
          · subst h2
            repeat (first | refine wk hT rfl rfl ?_ | refine wd hT rfl rfl rfl ?_ | refine wz hT rfl ?_ | refine AWd_nil ?_ | refine AWk_nil ?_ | refine wh hT rfl rfl rfl rfl ?_ | refine wg hT rfl rfl rfl rfl rfl ?_ | refine AW_seq ?_ | refine AW_region ?_ | refine wx mixed ?_ | refine AW_block ?_ | refine AW_skip ?_ | refine AW_exit ?_ | refine AW_ret ?_)
            exact ⟨i + 1, by omega, by omega, ⟨.refl _, .refl _, .int (by rw [hc, wrap_id (by omega)]; simp), .int hwr, trivial⟩, HLe.refl _⟩
          · subst h2
            repeat (first | refine wk hT rfl rfl ?_ | refine wd hT rfl rfl rfl ?_ | refine wz hT rfl ?_ | refine AWd_nil ?_ | refine AWk_nil ?_ | refine wh hT rfl rfl rfl rfl ?_ | refine wg hT rfl rfl rfl rfl rfl ?_ | refine AW_seq ?_ | refine AW_region ?_ | refine wx mixed ?_ | refine AW_block ?_ | refine AW_skip ?_ | refine AW_exit ?_ | refine AW_ret ?_)
            exact ⟨i + 1, by omega, by omega, ⟨.refl _, .refl _, .int (by rw [hc]; simp), .int hwr, trivial⟩, HLe.refl _⟩
        · have hge : i = kids.length := by rw [hlen] at h1; simp at h1; omega
          subst hge
          rw [List.take_of_length_le (by omega)]
          have ha := cntB_any fs
          have hb := cntB_all fs
          rw [hfl] at hb
          generalize fs.any id = p at ha
          generalize (fs.any fun b => !b) = q at hb
          generalize fs.count true = n at ha hb
          rcases hk34 with rfl | rfl
          · repeat (first | refine wk hT rfl rfl ?_ | refine wd hT rfl rfl rfl ?_ | refine wz hT rfl ?_ | refine AWd_nil ?_ | refine AWk_nil ?_ | refine wh hT rfl rfl rfl rfl ?_ | refine wg hT rfl rfl rfl rfl rfl ?_ | refine AW_seq ?_ | refine AW_region ?_ | refine wx mixed ?_ | refine AW_block ?_ | refine AW_skip ?_ | refine AW_exit ?_ | refine AW_ret ?_)
            refine rq ⟨rfl, rfl⟩ rfl (.bool ?_)
            rw [hlen]
            cases q
            · have : n = kids.length := hb.2 rfl
              subst this; simp
            · have : ¬ n = kids.length := fun h => by have := hb.1 h; cases this
              simp; omega
          · repeat (first | refine wk hT rfl rfl ?_ | refine wd hT rfl rfl rfl ?_ | refine wz hT rfl ?_ | refine AWd_nil ?_ | refine AWk_nil ?_ | refine wh hT rfl rfl rfl rfl ?_ | refine wg hT rfl rfl rfl rfl rfl ?_ | refine AW_seq ?_ | refine AW_region ?_ | refine wx mixed ?_ | refine AW_block ?_ | refine AW_skip ?_ | refine AW_exit ?_ | refine AW_ret ?_)
            refine rq ⟨rfl, rfl⟩ rfl (.bool ?_)
            cases p
            · have : ¬ 0 < n := fun h => by have := ha.1 h; cases this
              simp; omega
            · have : 0 < n := ha.2 rfl
              simp; omega

set_option maxHeartbeats 8000000 in
set_option maxRecDepth 100000 in
theorem HoldsR_spec (c : Cond) (l : List Res) (hl : l.length ≤ 1000000) (hs : smallC c) : Spec Tryz.prog 33 [cAV c, .d (.sl 2 (encRes l))] [] (fun r h' => r = .d (.bool (validC 8 c && holdsF l 8 c)) ∧ h' = []) := by
  have hv := good_spec 8 c (by omega) hs
  have hf := holdsR_spec l hl 8 c
  generalize validC 8 c = b at hv hf ⊢
  generalize holdsF l 8 c = f at hf ⊢
  obtain ⟨k, ch, v, kids⟩ := c
  refine Spec_of_body hT Tryz.func33 rfl rfl rfl rfl ?_
  intro E hE
  repeat (first | refine wk hT rfl rfl ?_ | refine wd hT rfl rfl rfl ?_ | refine wz hT rfl ?_ | refine AWd_nil ?_ | refine AWk_nil ?_ | refine wh hT rfl rfl rfl rfl ?_ | refine wg hT rfl rfl rfl rfl rfl ?_ | refine AW_seq ?_ | refine AW_region ?_ | refine wx mixed ?_ | refine AW_block ?_ | refine AW_skip ?_ | refine AW_exit ?_ | refine AW_ret ?_)
  first | refine AWk_op (callS0 rfl rfl (hv) rfl rfl rfl) rfl ?_ | refine AWd_op (callS0 rfl rfl (hv) rfl rfl rfl) rfl rfl ?_ | refine AWk_op (callS0L rfl rfl (hv) rfl (by repeat (first | exact trivial | exact AV.le.refl _ | exact AV.le.dat | exact AV.le.nils | exact AV.le.nilsf | exact AV.le.any _ | exact ObLe.refl _ | exact ⟨rfl, rfl⟩ | refine AV.le.tup ?_ | refine AV.le.agg ?_ | exact li | exact lb | exact ls | exact lk | exact ld | exact lz | refine ⟨?_, ?_⟩)) rfl rfl) rfl ?_ | refine AWd_op (callS0L rfl rfl (hv) rfl (by repeat (first | exact trivial | exact AV.le.refl _ | exact AV.le.dat | exact AV.le.nils | exact AV.le.nilsf | exact AV.le.any _ | exact ObLe.refl _ | exact ⟨rfl, rfl⟩ | refine AV.le.tup ?_ | refine AV.le.agg ?_ | exact li | exact lb | exact ls | exact lk | exact ld | exact lz | refine ⟨?_, ?_⟩)) rfl rfl) rfl rfl ?_
  repeat (first | refine wk hT rfl rfl ?_ | refine wd hT rfl rfl rfl ?_ | refine wz hT rfl ?_ | refine AWd_nil ?_ | refine AWk_nil ?_ | refine wh hT rfl rfl rfl rfl ?_ | refine wg hT rfl rfl rfl rfl rfl ?_ | refine AW_seq ?_ | refine AW_region ?_ | refine wx mixed ?_ | refine AW_block ?_ | refine AW_skip ?_ | refine AW_exit ?_ | refine AW_ret ?_)
  first | refine AWk_gop rfl rfl rfl (fun hg => ⟨(sg (C := True) hg).1, callS0 rfl rfl (hf (by simpa [gval] using hg) hs) rfl rfl rfl⟩) ?_ | refine AWd_gop rfl rfl rfl rfl (fun hg => ⟨(sg (C := True) hg).1, callS0 rfl rfl (hf (by simpa [gval] using hg) hs) rfl rfl rfl⟩) ?_
  repeat (first | refine wk hT rfl rfl ?_ | refine wd hT rfl rfl rfl ?_ | refine wz hT rfl ?_ | refine AWd_nil ?_ | refine AWk_nil ?_ | refine wh hT rfl rfl rfl rfl ?_ | refine wg hT rfl rfl rfl rfl rfl ?_ | refine AW_seq ?_ | refine AW_region ?_ | refine wx mixed ?_ | refine AW_block ?_ | refine AW_skip ?_ | refine AW_exit ?_ | refine AW_ret ?_)
  first | exact rx ⟨rfl, rfl⟩ | exact rxN ⟨rfl, rfl⟩ | (refine rq ⟨rfl, rfl⟩ rfl ?_; repeat (first | exact trivial | exact AV.le.refl _ | exact AV.le.dat | exact AV.le.nils | exact AV.le.nilsf | exact AV.le.any _ | exact ObLe.refl _ | exact ⟨rfl, rfl⟩ | refine AV.le.tup ?_ | refine AV.le.agg ?_ | exact li | exact lb | exact ls | exact lk | exact ld | exact lz | refine ⟨?_, ?_⟩)) | (refine rqN ⟨rfl, rfl⟩ rfl ?_; repeat (first | exact trivial | exact AV.le.refl _ | exact AV.le.dat | exact AV.le.nils | exact AV.le.nilsf | exact AV.le.any _ | exact ObLe.refl _ | exact ⟨rfl, rfl⟩ | refine AV.le.tup ?_ | refine AV.le.agg ?_ | exact li | exact lb | exact ls | exact lk | exact ld | exact lz | refine ⟨?_, ?_⟩))

set_option maxHeartbeats 8000000 in
set_option maxRecDepth 100000 in
theorem ForcedR_spec (c : Cond) (l : List Res) (hl : l.length ≤ 1000000) (hs : smallC c) : Spec Tryz.prog 65 [cAV c, .d (.sl 2 (encRes l))] [] (fun r h' => r = .d (.int .i64 (forcedP c l)) ∧ h' = []) := by
  have hv := good_spec 8 c (by omega) hs
  have hf := forcedR_spec l hl 8 c
  unfold forcedP
  generalize validC 8 c = b at hv hf ⊢
  generalize forcedF l 8 c = f at hf ⊢
  obtain ⟨k, ch, v, kids⟩ := c
  refine Spec_of_body hT Tryz.func65 rfl rfl rfl rfl ?_
  intro E hE
  repeat (first | refine wk hT rfl rfl ?_ | refine wd hT rfl rfl rfl ?_ | refine wz hT rfl ?_ | refine AWd_nil ?_ | refine AWk_nil ?_ | refine wh hT rfl rfl rfl rfl ?_ | refine wg hT rfl rfl rfl rfl rfl ?_ | refine AW_seq ?_ | refine AW_region ?_ | refine wx mixed ?_ | refine AW_block ?_ | refine AW_skip ?_ | refine AW_exit ?_ | refine AW_ret ?_)
  first | refine AWk_op (callS0 rfl rfl (hv) rfl rfl rfl) rfl ?_ | refine AWd_op (callS0 rfl rfl (hv) rfl rfl rfl) rfl rfl ?_ | refine AWk_op (callS0L rfl rfl (hv) rfl (by repeat (first | exact trivial | exact AV.le.refl _ | exact AV.le.dat | exact AV.le.nils | exact AV.le.nilsf | exact AV.le.any _ | exact ObLe.refl _ | exact ⟨rfl, rfl⟩ | refine AV.le.tup ?_ | refine AV.le.agg ?_ | exact li | exact lb | exact ls | exact lk | exact ld | exact lz | refine ⟨?_, ?_⟩)) rfl rfl) rfl ?_ | refine AWd_op (callS0L rfl rfl (hv) rfl (by repeat (first | exact trivial | exact AV.le.refl _ | exact AV.le.dat | exact AV.le.nils | exact AV.le.nilsf | exact AV.le.any _ | exact ObLe.refl _ | exact ⟨rfl, rfl⟩ | refine AV.le.tup ?_ | refine AV.le.agg ?_ | exact li | exact lb | exact ls | exact lk | exact ld | exact lz | refine ⟨?_, ?_⟩)) rfl rfl) rfl rfl ?_
  repeat (first | refine wk hT rfl rfl ?_ | refine wd hT rfl rfl rfl ?_ | refine wz hT rfl ?_ | refine AWd_nil ?_ | refine AWk_nil ?_ | refine wh hT rfl rfl rfl rfl ?_ | refine wg hT rfl rfl rfl rfl rfl ?_ | refine AW_seq ?_ | refine AW_region ?_ | refine wx mixed ?_ | refine AW_block ?_ | refine AW_skip ?_ | refine AW_exit ?_ | refine AW_ret ?_)
  refine AW_condL rfl (fun h1 => ?_) (fun h1 => ?_)
  · have h1' : ¬ b = true := by simpa using h1
    rw [if_neg h1']
    repeat (first | refine wk hT rfl rfl ?_ | refine wd hT rfl rfl rfl ?_ | refine wz hT rfl ?_ | refine AWd_nil ?_ | refine AWk_nil ?_ | refine wh hT rfl rfl rfl rfl ?_ | refine wg hT rfl rfl rfl rfl rfl ?_ | refine AW_seq ?_ | refine AW_region ?_ | refine wx mixed ?_ | refine AW_block ?_ | refine AW_skip ?_ | refine AW_exit ?_ | refine AW_ret ?_)
    first | exact rx ⟨rfl, rfl⟩ | exact rxN ⟨rfl, rfl⟩ | (refine rq ⟨rfl, rfl⟩ rfl ?_; repeat (first | exact trivial | exact AV.le.refl _ | exact AV.le.dat | exact AV.le.nils | exact AV.le.nilsf | exact AV.le.any _ | exact ObLe.refl _ | exact ⟨rfl, rfl⟩ | refine AV.le.tup ?_ | refine AV.le.agg ?_ | exact li | exact lb | exact ls | exact lk | exact ld | exact lz | refine ⟨?_, ?_⟩)) | (refine rqN ⟨rfl, rfl⟩ rfl ?_; repeat (first | exact trivial | exact AV.le.refl _ | exact AV.le.dat | exact AV.le.nils | exact AV.le.nilsf | exact AV.le.any _ | exact ObLe.refl _ | exact ⟨rfl, rfl⟩ | refine AV.le.tup ?_ | refine AV.le.agg ?_ | exact li | exact lb | exact ls | exact lk | exact ld | exact lz | refine ⟨?_, ?_⟩))
  · have h1' : b = true := by simpa using h1
    rw [if_pos h1']
    have hf := hf h1' hs
    repeat (first | refine wk hT rfl rfl ?_ | refine wd hT rfl rfl rfl ?_ | refine wz hT rfl ?_ | refine AWd_nil ?_ | refine AWk_nil ?_ | refine wh hT rfl rfl rfl rfl ?_ | refine wg hT rfl rfl rfl rfl rfl ?_ | refine AW_seq ?_ | refine AW_region ?_ | refine wx mixed ?_ | refine AW_block ?_ | refine AW_skip ?_ | refine AW_exit ?_ | refine AW_ret ?_)
    first | refine AWk_op (callS0 rfl rfl (hf) rfl rfl rfl) rfl ?_ | refine AWd_op (callS0 rfl rfl (hf) rfl rfl rfl) rfl rfl ?_ | refine AWk_op (callS0L rfl rfl (hf) rfl (by repeat (first | exact trivial | exact AV.le.refl _ | exact AV.le.dat | exact AV.le.nils | exact AV.le.nilsf | exact AV.le.any _ | exact ObLe.refl _ | exact ⟨rfl, rfl⟩ | refine AV.le.tup ?_ | refine AV.le.agg ?_ | exact li | exact lb | exact ls | exact lk | exact ld | exact lz | refine ⟨?_, ?_⟩)) rfl rfl) rfl ?_ | refine AWd_op (callS0L rfl rfl (hf) rfl (by repeat (first | exact trivial | exact AV.le.refl _ | exact AV.le.dat | exact AV.le.nils | exact AV.le.nilsf | exact AV.le.any _ | exact ObLe.refl _ | exact ⟨rfl, rfl⟩ | refine AV.le.tup ?_ | refine AV.le.agg ?_ | exact li | exact lb | exact ls | exact lk | exact ld | exact lz | refine ⟨?_, ?_⟩)) rfl rfl) rfl rfl ?_
    repeat (first | refine wk hT rfl rfl ?_ | refine wd hT rfl rfl rfl ?_ | refine wz hT rfl ?_ | refine AWd_nil ?_ | refine AWk_nil ?_ | refine wh hT rfl rfl rfl rfl ?_ | refine wg hT rfl rfl rfl rfl rfl ?_ | refine AW_seq ?_ | refine AW_region ?_ | refine wx mixed ?_ | refine AW_block ?_ | refine AW_skip ?_ | refine AW_exit ?_ | refine AW_ret ?_)
    first | exact rx ⟨rfl, rfl⟩ | exact rxN ⟨rfl, rfl⟩ | (refine rq ⟨rfl, rfl⟩ rfl ?_; repeat (first | exact trivial | exact AV.le.refl _ | exact AV.le.dat | exact AV.le.nils | exact AV.le.nilsf | exact AV.le.any _ | exact ObLe.refl _ | exact ⟨rfl, rfl⟩ | refine AV.le.tup ?_ | refine AV.le.agg ?_ | exact li | exact lb | exact ls | exact lk | exact ld | exact lz | refine ⟨?_, ?_⟩)) | (refine rqN ⟨rfl, rfl⟩ rfl ?_; repeat (first | exact trivial | exact AV.le.refl _ | exact AV.le.dat | exact AV.le.nils | exact AV.le.nilsf | exact AV.le.any _ | exact ObLe.refl _ | exact ⟨rfl, rfl⟩ | refine AV.le.tup ?_ | refine AV.le.agg ?_ | exact li | exact lb | exact ls | exact lk | exact ld | exact lz | refine ⟨?_, ?_⟩))
end Tdoc
