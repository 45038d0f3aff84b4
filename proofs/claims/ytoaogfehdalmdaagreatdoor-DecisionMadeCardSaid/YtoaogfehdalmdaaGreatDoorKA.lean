/- Opening a decision that a law is given. -/
import Derived.Test.YtoaogfehdalmdaaGreatDoorK8
import Derived.Deep.SlicePairs
import Derived.Deep.Strs
import Derived.Deep.Fields
import Derived.Lib.SmallJoins
import Derived.Test.YtoaogfehdalmdaaGreatDoorK3
import Derived.Test.YtoaogfehdalmdaaGreatDoorCards
import Derived.Test.YtoaogfehdalmdaaGreatDoorTie
import Derived.WalkKit
import Derived.ProofKit
import Derived.OpenShut
import Derived.Deep.DeepHandedRow
import Derived.Lib.LaidTab
import Derived.LaidSub
import Derived.Shelf.Vars
set_option linter.unusedVariables false
set_option linter.unusedSimpArgs false
set_option maxRecDepth 100000
namespace Tdoc
open Go Go.Proofs Go.ChangeShapes Go.WideShapes Go.Deep Go.Joins

section
variable {H : Type} {enc : TypeId × Value → H}

theorem wf64 {n : Int} (h : (Lit.int .i64 n).wf = true) : -9223372036854775808 ≤ n ∧ n ≤ 9223372036854775807 := by
  have hm : IntKind.i64.min = -9223372036854775808 := by decide
  have h2 := h
  simp [Lit.wf] at h2
  rw [hm] at h2
  exact ⟨h2.1, h2.2⟩

theorem RepD_pairs {W : World} {a : Addr} {len cap : Nat} (xs ys : Nat → Int) (hs : a.spot = none) (hlc : len ≤ cap)
    (hx : ∀ i, i < len → W.cell? (a.add (i * 2)) = some (.int .i64 (xs i)) ∧ W.cell? (a.add (i * 2 + 1)) = some (.int .i64 (ys i))) :
    RepD (GW W).imm (.sl 2 (encRes ((List.range len).map fun i => (xs i, ys i)))) (.slice (some a) len cap) := by
  have hz : (encRes ((List.range len).map fun i => (xs i, ys i))).length = len := by simp [encRes_length]
  have hg : ∀ i e, (encRes ((List.range len).map fun i => (xs i, ys i)))[i]? = some e → i < len ∧ e = [.int .i64 (xs i), .int .i64 (ys i)] := fun i e he => by
    have hi : i < len := by rw [← hz]; exact (List.getElem?_eq_some_iff.1 he).1
    refine ⟨hi, ?_⟩
    simp [encRes, encRe, hi] at he
    exact he.symm
  have h := RepD.sl (m := (GW W).imm) 2 (encRes ((List.range len).map fun i => (xs i, ys i))) a cap (fun j => if j % 2 = 0 then .int .i64 (xs (j / 2)) else .int .i64 (ys (j / 2))) hs (by omega) (fun e he => ?_) (fun i e j d he hd => ?_) (fun i e j d he hd => ?_)
  · rw [hz] at h; exact h
  · simp only [encRes, List.mem_map] at he
    obtain ⟨r, _, rfl⟩ := he; rfl
  · obtain ⟨hi, rfl⟩ := hg i e he
    match j, hd with
    | 0, hd => simp only [Nat.add_zero, Nat.mul_mod_left, if_true, Nat.mul_div_cancel i (show 0 < 2 by omega)]; exact (hx i hi).1
    | 1, hd => rw [if_neg (by omega), show (i * 2 + 1) / 2 = i by omega]; exact (hx i hi).2
    | j + 2, hd => simp at hd
  · obtain ⟨hi, rfl⟩ := hg i e he
    match j, hd with
    | 0, hd => simp at hd; subst hd; simp only [Nat.add_zero, Nat.mul_mod_left, if_true, Nat.mul_div_cancel i (show 0 < 2 by omega)]; exact .int _ _
    | 1, hd => simp at hd; subst hd; rw [if_neg (by omega), show (i * 2 + 1) / 2 = i by omega]; exact .int _ _
    | j + 2, hd => simp at hd

theorem open_res {W : World} {P : Program} {t e : TypeId} {f0 f1 : Field} {v : Value} {n : Nat} {y : DataW H × List MemPlace} (ht : P.underlying t = some (.slice e)) (he : P.underlying e = some (.struct #[f0, f1]))
    (ce : P.cellsOf e = 2) (o0 : f0.offset = 0) (o1 : f1.offset = 1) (c0 : P.cellsOf f0.type = 1) (c1 : P.cellsOf f1.type = 1) (i0 : P.underlying f0.type = some (.int .i64)) (i1 : P.underlying f1.type = some (.int .i64))
    (hsp : ∀ a len cap, v = .slice (some a) len cap → a.spot = none)
    (hd : DataW.trod enc P W 0 (fun _ => true) true n t [v] = some y) : ∃ l : List Res, (∀ r, r ∈ l → (-9223372036854775808 ≤ r.1 ∧ r.1 ≤ 9223372036854775807) ∧ (-9223372036854775808 ≤ r.2 ∧ r.2 ≤ 9223372036854775807)) ∧ RepA (GW W) (.d (.sl 2 (encRes l))) v := by
  rcases open_slice_pairs ht he ce o0 o1 c0 c1 hd with ⟨h1, -⟩ | ⟨a, len, cap, m, k, V0, V1, D0, D1, P0, P1, h1, -, hlc, hcm, hm, -, hx⟩
  · obtain rfl : v = .slice none 0 0 := by simpa using h1
    exact ⟨[], by simp, .d (.nil 2)⟩
  · obtain rfl : v = .slice (some a) len cap := by simpa using h1
    have hlm : len ≤ m := by rw [hm]; split <;> omega
    have each : ∀ i, i < len → ∃ q : Int × Int, V0 i = .int .i64 q.1 ∧ V1 i = .int .i64 q.2 ∧ (Lit.int .i64 q.1).wf = true ∧ (Lit.int .i64 q.2).wf = true := fun i hi => by
      obtain ⟨-, -, g0, g1⟩ := hx i (by omega)
      obtain ⟨n0, e0, -, w0⟩ := DataW.trod_int i0 g0
      obtain ⟨n1, e1, -, w1⟩ := DataW.trod_int i1 g1
      exact ⟨(n0, n1), by simpa using e0, by simpa using e1, w0, w1⟩
    have each2 : ∀ i, ∃ q : Int × Int, i < len → V0 i = .int .i64 q.1 ∧ V1 i = .int .i64 q.2 ∧ (Lit.int .i64 q.1).wf = true ∧ (Lit.int .i64 q.2).wf = true := fun i => by
      by_cases hi : i < len
      · obtain ⟨q, hq⟩ := each i hi; exact ⟨q, fun _ => hq⟩
      · exact ⟨(0, 0), fun hh => absurd hh hi⟩
    refine ⟨(List.range len).map fun i => (((each2 i).choose).1, ((each2 i).choose).2), fun r hr => ?_, .d (RepD_pairs _ _ (hsp a len cap rfl) hlc fun i hi => ?_)⟩
    · obtain ⟨i, hi, rfl⟩ := List.mem_map.1 hr
      have := (each2 i).choose_spec (List.mem_range.1 hi)
      exact ⟨wf64 this.2.2.1, wf64 this.2.2.2⟩
    · have := (each2 i).choose_spec hi
      have hc := hx i (by omega)
      exact ⟨hc.1.trans (congrArg some this.1), hc.2.1.trans (congrArg some this.2.1)⟩

theorem tDec : Tryz.prog.cellTypes Tryz.prog.depth 32 = some [3, 3, 29] := by kernel_rfl

theorem open_dec {r : Reach} {b0 : Nat} {W : World} {v : Value} {d : DataW H} {ps : List MemPlace} (hval : Value.okWide Tryz.prog W r b0 32 v) (hd : DataW.Trod enc Tryz.prog W 0 (fun _ => true) true 32 v d ps) :
    ∃ D : Decn, (-9223372036854775808 ≤ D.rule ∧ D.rule ≤ 9223372036854775807) ∧ (-9223372036854775808 ≤ D.v ∧ D.v ≤ 9223372036854775807) ∧ (∀ r, r ∈ D.rs → (-9223372036854775808 ≤ r.1 ∧ r.1 ≤ 9223372036854775807) ∧ (-9223372036854775808 ≤ r.2 ∧ r.2 ≤ 9223372036854775807)) ∧ RepA (GW W) (decAV D) v := by
  obtain ⟨v0, v1, v2, y0, y1, y2, n, rfl, -, -, g0, g1, g2⟩ := open_agg3 Tryz.underlying32 (by kernel_rfl) (by kernel_rfl) hval hd
  obtain ⟨n0, e0, -, w0⟩ := DataW.trod_int Tryz.underlying3 g0
  obtain ⟨n1, e1, -, w1⟩ := DataW.trod_int Tryz.underlying3 g1
  obtain rfl : v0 = .int .i64 n0 := by simpa using e0
  obtain rfl : v1 = .int .i64 n1 := by simpa using e1
  have hsp : ∀ a len cap, v2 = .slice (some a) len cap → a.spot = none := fun a len cap hv => by
    subst hv
    simp only [Value.okWide, Tryz.underlying32] at hval
    obtain ⟨cs, hcs, -, ts, hts, -, hcell⟩ := hval
    cases hcs
    rw [tDec] at hts
    cases hts
    obtain ⟨u, hu, hok⟩ := hcell 2 _ rfl
    obtain rfl : 29 = u := by simpa using hu
    simp only [Cell.okWide, Tryz.underlying29, Cell.ok] at hok
    exact hok.2.2.2.1
  obtain ⟨l, hl, hrep⟩ := open_res Tryz.underlying29 Tryz.underlying40 (by kernel_rfl) rfl rfl (by kernel_rfl) (by kernel_rfl) Tryz.underlying3 Tryz.underlying3 hsp g2
  refine ⟨⟨n0, n1, l⟩, wf64 w1, wf64 w0, hl, .agg _ rfl (fun j x v hx hv => ?_) (fun j v hv => ?_)⟩
  · match j, hx, hv with
    | 0, hx, hv => simp [decCells] at hx hv; subst hx; subst hv; exact .d (.int _ _)
    | 1, hx, hv => simp [decCells] at hx hv; subst hx; subst hv; exact .d (.int _ _)
    | 2, hx, hv => simp [decCells] at hx hv; subst hx; subst hv; exact hrep
    | j + 3, hx, hv => simp [decCells] at hx
  · match j, hv with
    | 0, hv => simp at hv; subst hv; rfl
    | 1, hv => simp at hv; subst hv; rfl
    | 2, hv =>
      simp at hv; subst hv
      generalize encRes l = el at hrep
      cases hrep with
      | d hr => cases hr <;> rfl
    | j + 3, hv => simp at hv
end
end Tdoc
/- The variables stand before the call: out of the world's shape and a row's list. -/
set_option linter.unusedVariables false
set_option linter.unusedSimpArgs false
set_option maxRecDepth 100000
namespace Go.Proofs.YtoaogfehdalmdaaGreatDoor
open Go Tdoc

theorem blk_one {W : World} {g : Nat} {t : TypeId} {zero : Array Value} (h : W.ShapedOpen Tryz.prog) (hg : g < Tryz.prog.globals.size)
    (h0 : ((begin Tryz.prog (fun _ _ => 0) default).world.heap[g]?).bind Obj.row? = some (zero, t)) (hz : zero.size = 1) (hb : Tryz.prog.buildable t = true) (hc : Tryz.prog.cellTypes Tryz.prog.depth t = some [t]) :
    ∃ v, W.heap[g]? = some (.cells #[v] t) ∧ Cell.ok Tryz.prog W .any 0 t v := by
  obtain ⟨cs, hh, hs, hr⟩ := h.1 g zero t hg h0
  obtain ⟨ts, hts, _, hall⟩ := hr hb
  rw [hc] at hts
  cases hts
  obtain ⟨l⟩ := cs
  match l, hs.trans hz with
  | [v], _ =>
    obtain ⟨u, hu, hk⟩ := hall 0 v rfl
    obtain rfl : t = u := by simpa using hu
    exact ⟨v, hh, hk⟩

theorem mx {W : World} (h : W.ShapedOpen Tryz.prog) : ∃ (m : Int) (t : TypeId) (f : Nat × Nat), W.heap[0]? = some (.cells #[.int .i64 m] t f) := by
  obtain ⟨v, h1, h2⟩ := blk_one (g := 0) (zero := #[.int .i64 0]) (t := 3) h (of_decide_eq_true (by kernel_rfl)) (by kernel_rfl) rfl (by kernel_rfl) (by kernel_rfl)
  simp only [Cell.ok, Tryz.underlying3] at h2
  cases v <;> simp at h2
  obtain ⟨rfl, _⟩ := h2
  exact ⟨_, _, _, h1⟩

def laidAll : List (String × DataW Unit) := Rows.decisionTextsRow.laid
theorem gTab1 : Tryz.prog.globalNamed "strconv.ErrSyntax" = some 1 := by kernel_rfl
theorem gTab2 : Tryz.prog.globalNamed "strconv.ErrRange" = some 2 := by kernel_rfl
theorem gTab3 : Tryz.prog.globalNamed "internal/strconv.uint64pow10" = some 3 := by kernel_rfl
theorem gTy1 : (Tryz.prog.globals[1]?).map (·.type) = some 73 := by kernel_rfl
theorem gTy2 : (Tryz.prog.globals[2]?).map (·.type) = some 73 := by kernel_rfl
theorem gTy3 : (Tryz.prog.globals[3]?).map (·.type) = some 151 := by kernel_rfl
theorem undA : Tryz.prog.underlying 151 = some (.array 20 127) := by kernel_rfl
theorem undI : Tryz.prog.underlying 127 = some (.int .u64) := by kernel_rfl
theorem cellsA : Tryz.prog.cellsOf 151 = 20 := by kernel_rfl
theorem cellsI : Tryz.prog.cellsOf 127 = 1 := by kernel_rfl

theorem var_heap {P : Program} {W : World} {n : String} {g : Nat} {cs : Array Value} (hg : P.globalNamed n = some g) (h : W.var? P n = some cs) : ∃ t f, W.heap[g]? = some (.cells cs t f) := by
  unfold World.var? at h
  rw [hg] at h
  simp only [Option.bind_some] at h
  split at h
  · rename_i c t f he
    cases h
    exact ⟨t, f, he⟩
  · cases h

/-- A laid variable of an interface type: one cell. -/
theorem ifc_laid {W : World} {n : String} {g : Nat} {d : DataW Unit} (hg : Tryz.prog.globalNamed n = some g) (hty : (Tryz.prog.globals[g]?).map (·.type) = some 73) (h : laidMet Tryz.prog [(n, d)] W) :
    ∃ (v : Value) (t : TypeId) (f : Nat × Nat), W.heap[g]? = some (.cells #[v] t f) ∧ (v = .nilIface ∨ ∃ te pe, v = .iface te pe) := by
  obtain ⟨ps, ⟨g', t', cs, fuel, p, q, hg', ht', hvar, hd, _, _⟩, _⟩ := h
  obtain rfl := Option.some.inj (hg.symm.trans hg')
  obtain rfl := Option.some.inj (hty.symm.trans ht')
  obtain ⟨t, f, hh⟩ := var_heap hg hvar
  cases fuel with
  | zero => simp [DataW.trod] at hd
  | succ k =>
    obtain ⟨l⟩ := cs
    simp only [DataW.trod, Tryz.underlying73] at hd
    match l, hd with
    | [], hd => simp at hd
    | [v], hd =>
      cases v <;> simp at hd
      · exact ⟨_, t, f, hh, .inr ⟨_, _, rfl⟩⟩
      · exact ⟨_, t, f, hh, .inl rfl⟩
    | _ :: _ :: _, hd => simp at hd

theorem tabOk {W : World} (h : laidMetH Tryz.prog laidAll W) (hs : W.ShapedOpen Tryz.prog) : TabOk W (GW W) := by
  have h1 : laidMet Tryz.prog [("strconv.ErrSyntax", Rows.laid_strconv_ErrSyntax)] W := laidMetH.filter (fun x => x.1 == "strconv.ErrSyntax") h
  have h2 : laidMet Tryz.prog [("strconv.ErrRange", Rows.laid_strconv_ErrRange)] W := laidMetH.filter (fun x => x.1 == "strconv.ErrRange") h
  have h3 : laidMet Tryz.prog [("internal/strconv.uint64pow10", Rows.laid_internal_strconv_uint64pow10)] W := laidMetH.filter (fun x => x.1 == "internal/strconv.uint64pow10") h
  refine ⟨fun g cs hg => by simp [seatTab] at hg, fun g p hg => ⟨rfl, ?_⟩⟩
  match g, hg with
  | 0, hg =>
    cases hg
    obtain ⟨m, t, f, hh⟩ := mx hs
    exact ⟨_, hh, m, t, f, rfl⟩
  | 1, hg =>
    cases hg
    obtain ⟨v, t, f, hh, hv⟩ := ifc_laid gTab1 gTy1 h1
    exact ⟨_, hh, v, t, f, rfl, hv⟩
  | 2, hg =>
    cases hg
    obtain ⟨v, t, f, hh, hv⟩ := ifc_laid gTab2 gTy2 h2
    exact ⟨_, hh, v, t, f, rfl, hv⟩
  | 3, hg =>
    cases hg
    have ht : Lib.TabIs Tryz.prog W "internal/strconv.uint64pow10" .u64 ((List.range 20).map fun i => ((10 ^ i : Nat) : Int)) := Lib.tabIs_of_head (rest := []) gTab3 gTy3 undA undI cellsI cellsA h3
    unfold Lib.TabIs at ht
    obtain ⟨t, f, hh⟩ := var_heap gTab3 ht
    exact ⟨_, hh, t, f, by rw [List.map_map]; rfl⟩
  | g + 4, hg => simp [seatBlk] at hg

/-- A world for the witness: the listed variables lie as the list says; two blocks more hold the texts of the two errors. -/
def cellsOfD : DataW Unit → List Value
  | .agg l => l.flatMap fun
      | .lit (.int k n) => [.int k n]
      | .agg [.lit (.int k n), .lit (.int k' n')] => [.int k n, .int k' n']
      | _ => []
  | _ => []
noncomputable def lay (w : World) (g : Nat) (l : List Value) : World :=
  { w with heap := w.heap.modify g fun
      | .cells _ t frozen => .cells l.toArray t frozen
      | o => o }
noncomputable def more (w : World) (s : List UInt8) : World := { w with heap := w.heap.push (.cells #[.string ⟨s.toArray⟩] 149 (0, 0)) }
noncomputable def laidWorld (os : Os) : World :=
  let w0 := World.holding Tryz.prog os ⟨#[], #[], []⟩
  let w1 := more (more w0 [118, 97, 108, 117, 101, 32, 111, 117, 116, 32, 111, 102, 32, 114, 97, 110, 103, 101]) [105, 110, 118, 97, 108, 105, 100, 32, 115, 121, 110, 116, 97, 120]
  lay (lay (lay (lay (lay (lay (lay w1 2 [.iface 147 (.pointer (some ⟨w0.heap.size, 0, none⟩))]) 1 [.iface 147 (.pointer (some ⟨w0.heap.size + 1, 0, none⟩))]) 3 (cellsOfD Rows.laid_internal_strconv_uint64pow10)) 4 (cellsOfD Rows.laid_unicode_utf8_first)) 5 (cellsOfD Rows.laid_unicode_utf8_acceptRanges)) 6 (cellsOfD Rows.laid_math_bits_deBruijn32tab)) 7 (cellsOfD Rows.laid_math_bits_deBruijn64tab)
theorem laid_met0 (os : Os) (args : Array Value) : laidMet Tryz.prog laidAll ((laidWorld os).forCall (fun _ _ => 0) ⟨#[], args, []⟩).memory :=
  laidMet_of_run' 8 (by kernel_rfl) (by kernel_rfl)
end Go.Proofs.YtoaogfehdalmdaaGreatDoor
