/- Rows of any length that one owns: made, read, written, cut, turned into text, handed on as data that does not turn. No program is named here. -/
import Derived.Test.YtkkfcpohiofinaaDoorB5
import Derived.Laws.MakeOwn
set_option linter.unusedSimpArgs false
set_option linter.unusedVariables false
namespace Tdoc
open Go

section
variable {P : Program} {E : Env} {T : Tr} {o : Oper} {ρ : Operand → AV} {h h' : List AObj} {v : AV}

/-- The element of a slice type: its size, its bytes, its zero cells. -/
def elemT (T : Tr) (t : Nat) : Option (Nat × Nat × List AV) := match T.find t with
  | some i => match i.kind with
    | .slice e => match T.find e with
      | some ie => match Nat.beq ie.zero.length ie.size with
        | true => some (ie.size, ie.bytes, ie.zero)
        | false => none
      | none => none
    | _ => none
  | none => none

theorem elemT_ok (hT : TOk P T) {t sz by_ : Nat} {z : List AV} (h : elemT T t = some (sz, by_, z)) :
    ∃ e ie, P.underlying t = some (.slice e) ∧ TypeAt P e ie ∧ ie.size = sz ∧ ie.bytes = by_ ∧ ie.zero = z ∧ z.length = sz := by
  unfold elemT at h
  split at h
  · rename_i i hi
    split at h
    · rename_i e hk
      split at h
      · rename_i ie hie
        split at h
        · rename_i hb
          cases h
          obtain ⟨d, hd, hkd⟩ := (hT.at hi).und
          rw [hk] at hkd
          cases d <;> simp [kindOk] at hkd
          subst hkd
          exact ⟨e, ie, hd, hT.at hie, rfl, rfl, rfl, Nat.eq_of_beq_eq_true hb⟩
        · cases h
      · cases h
    · cases h
  · cases h

theorem RepA.row_inv {G : Gh} {v : Value} {i off n cap : Nat} (h : RepA G (.row i off n cap) v) : ∃ b, v = .slice (some ⟨b, off, none⟩) n cap ∧ G.loc i = some b := by cases h with | row _ _ _ r => exact ⟨_, rfl, r⟩

theorem flat_repl {α : Type} (z : List α) : ∀ (n j : Nat), (List.replicate n z).flatten[j]? = if j < n * z.length then z[j % z.length]? else none
  | 0, j => by simp
  | n + 1, j => by
    rw [List.replicate_succ, List.flatten_cons]
    by_cases hj : j < z.length
    · rw [List.getElem?_append_left hj, Nat.mod_eq_of_lt hj]
      rw [if_pos (by rw [Nat.succ_mul]; omega)]
    · rw [List.getElem?_append_right (by omega), flat_repl z n]
      rw [Nat.succ_mul, Nat.mod_eq_sub_mod (a := j) (by omega)]
      by_cases h1 : j - z.length < n * z.length
      · rw [if_pos h1, if_pos (by omega)]
      · rw [if_neg h1, if_neg (by omega)]

/-- A new row of zero elements. -/
theorem makeRow_ok (hT : TOk P T) {t sz by_ : Nat} {z : List AV} {x y : Operand} {k k' : IntKind} {n : Nat} (ho : o.op = .makeSlice t x y) (he : elemT T t = some (sz, by_, z)) (hx : ρ x = .d (.int k (n : Int))) (hy : ρ y = .d (.int k' (n : Int)))
    (hb : by_ * n ≤ 281474976710656) (h63 : n ≤ 9223372036854775807) :
    OpS P E o ρ h (.row h.length 0 n n) (h ++ [.row (List.replicate n z).flatten]) :=
  OpS_of_run fun G e w hw hr => by
    have hx' : RepA G (ρ x) (e x) := hr x (by simp [ho, Op.operands])
    have hy' : RepA G (ρ y) (e y) := hr y (by simp [ho, Op.operands])
    rw [hx] at hx'; rw [hy] at hy'
    obtain ⟨et, ie, h1, h2, h3, h4, h5, h6⟩ := elemT_ok hT he
    obtain ⟨info, g1, g2, g3, zv, g4, g5⟩ := h2.info
    obtain ⟨hl, hc⟩ := zrepL_ok g5
    have hzs : zv.cells.size = sz := by
      have : zv.cells.toList.length = ie.zero.length := hl.symm ▸ rfl
      simp only [Array.length_toList] at this
      rw [this, h5, h6]
    have hbb : (info.bytes : Int) * (n : Int) ≤ 281474976710656 := by
      have : info.bytes * n ≤ 281474976710656 := by rw [g3, h4]; exact hb
      have h9 : ((info.bytes * n : Nat) : Int) ≤ 281474976710656 := by omega
      rwa [Int.natCast_mul] at h9
    have hrun := run_make (P := P) w t et info zv h1 g1 g4 k k' (n : Int) (n : Int) (by omega) (Int.le_refl _) hbb (by omega)
    simp only [Int.toNat_natCast] at hrun
    have hinfo : info.size = sz := by rw [g2, h3]
    have hcells : ∀ (j : Nat) (c : AV) (u : Value), ((List.replicate n z).flatten)[j]? = some c → (madeCells zv.cells (n * info.size))[j]? = some u → RepA G c u ∧ oneC u = true := by
      intro j c u h7 h8
      rw [flat_repl, h6] at h7
      split at h7
      · rename_i hj
        have hlt : j % sz < zv.cells.size := by
          rw [hzs]
          exact Nat.mod_lt _ (by rcases Nat.eq_zero_or_pos sz with h0 | h0; (subst h0; simp at hj); exact h0)
        simp only [madeCells, Array.getElem?_map, Option.map_eq_some_iff] at h8
        obtain ⟨q, hq, rfl⟩ := h8
        have hjq : q = j := by
          have hh := hq
          rw [Array.getElem?_eq_some_iff] at hh
          obtain ⟨_, hh⟩ := hh
          simpa using hh.symm
        subst hjq
        rw [hzs, getElem!_pos zv.cells (q % sz) hlt]
        exact hc G _ c _ (by rw [h5]; exact h7) (by simp [hlt])
      · cases h7
    have hn := hw.newRow (madeCells zv.cells (n * info.size)) et (List.replicate n z).flatten (by rw [size_madeCells, List.length_flatten, List.map_replicate, List.sum_replicate_nat, h6, hinfo])
      hcells { w with heap := w.heap.push (.cells (madeCells zv.cells (n * info.size)) et) } rfl rfl rfl rfl
    refine ⟨.slice (some ⟨w.heap.size, 0, none⟩) n n, _, _, ?_, hn.1, hn.2, .row 0 n n ?_⟩
    · unfold execOp
      simp only [ho, hx'.int_inv, hy'.int_inv, Sem.run_bind, hrun, Result.andThen_ok]
      rfl
    · show (if h.length = h.length then _ else _) = _; simp

theorem flat_one {α : Type} (a : α) : ∀ n, (List.replicate n [a]).flatten = List.replicate n a
  | 0 => rfl
  | n + 1 => by rw [List.replicate_succ, List.flatten_cons, flat_one a n]; rfl

/-- The same for elements of one cell. -/
theorem makeRow1_ok (hT : TOk P T) {t by_ : Nat} {z : AV} {x y : Operand} {k k' : IntKind} {n : Nat} (ho : o.op = .makeSlice t x y) (he : elemT T t = some (1, by_, [z])) (hx : ρ x = .d (.int k (n : Int))) (hy : ρ y = .d (.int k' (n : Int)))
    (hb : by_ * n ≤ 281474976710656) (h63 : n ≤ 9223372036854775807) :
    OpS P E o ρ h (.row h.length 0 n n) (h ++ [.row (List.replicate n z)]) := by
  have := makeRow_ok (E := E) (h := h) hT ho he hx hy hb h63
  rwa [flat_one] at this

/-- The address of an element of an owned row. -/
theorem rowAddr_ok (hT : TOk P T) {t sz i off n cap : Nat} {x ix : Operand} {k : IntKind} {j : Int} (ho : o.op = .indexAddr t x ix) (hs : sliceElem T t sz = true)
    (hx : ρ x = .row i off n cap) (hix : ρ ix = .d (.int k j)) (h0 : 0 ≤ j ∧ j < (n : Int)) : OpP P o ρ (.ptr i (off + j.toNat * sz)) := by
  intro G e w hi hr
  have hx' : RepA G (ρ x) (e x) := hr x (by simp [ho, Op.operands])
  have hix' : RepA G (ρ ix) (e ix) := hr ix (by simp [ho, Op.operands])
  rw [hx] at hx'; rw [hix] at hix'
  obtain ⟨et, ie, h1, h2, h3⟩ := sliceElem_ok hT hs
  obtain ⟨b, hv, hl⟩ := hx'.row_inv
  refine ⟨.pointer (some ⟨b, off + j.toNat * sz, none⟩), ?_, .ptr _ hl⟩
  unfold execOp
  simp only [ho, Sem.run_bind]
  rw [hv, hix'.int_inv]
  simp [Instr.indexAt, asIntOf, run_underlying h1, h0.1, h0.2, h2.run_size, h3, add_mk]

/-- A store into one cell of a row. -/
theorem store1_ok (hT : TOk P T) {t i off : Nat} {ti : TI} {x y : Operand} {cells : List AV} (ho : o.op = .store t x y) (hx : ρ x = .ptr i off) (hi : h[i]? = some (.row cells)) (hf : T.find t = some ti) (hsz : Nat.beq ti.size 1 = true)
    (hs : scalarA (ρ y) = true) (hlt : off < cells.length) : OpS P E o ρ h .any (h.set i (.row (cells.set off (ρ y)))) := by
  refine store_ok hT ho hx hi ?_
  have hc : cellsA (ρ y) = some [ρ y] := by
    generalize ρ y = a at hs ⊢
    cases a <;> first | rfl | cases hs
  have h1 := Nat.eq_of_beq_eq_true hsz
  have h2 : Nat.ble (off + 1) cells.length = true := Nat.ble_eq_true_of_le hlt
  simp [storeA, hf, hc, h1, h2, setRun]

/-- A load of one cell of a row. -/
theorem load1_ok (hT : TOk P T) {t i off : Nat} {ti : TI} {x : Operand} {cells : List AV} (ho : o.op = .load t x) (hx : ρ x = .ptr i off) (hi : h[i]? = some (.row cells)) (hf : T.find t = some ti) (ha : ti.agg = false)
    (hv : cells[off]? = some v) : OpS P E o ρ h v h := by
  refine load_ok hT ho hx hi ?_
  simp [loadA, hf, ha, hv]

/-- A part of an owned row. -/
theorem rowCut_ok (hT : TOk P T) {t sz i off n cap : Nat} {x : Operand} {lo hi : Option Operand} {l r : Nat} (ho : o.op = .slice t x lo hi none) (hs : sliceElem T t sz = true) (hx : ρ x = .row i off n cap)
    (hlo : match lo with | none => l = 0 | some y => ∃ k, ρ y = .d (.int k (l : Int))) (hhi : match hi with | none => r = n | some y => ∃ k, ρ y = .d (.int k (r : Int))) (hle : l ≤ r) (hc : r ≤ cap) :
    OpP P o ρ (.row i (if cap = l then off else off + l * sz) (r - l) (cap - l)) := by
  intro G e w hi' hr
  have hx' : RepA G (ρ x) (e x) := hr x (by simp [ho, Op.operands])
  rw [hx] at hx'
  obtain ⟨et, ie, h1, h2, h3⟩ := sliceElem_ok hT hs
  obtain ⟨b, hv, hl⟩ := hx'.row_inv
  have hlo' : match lo with | none => l = 0 | some y => ∃ k, e y = .int k (l : Int) := by
    cases lo with
    | none => exact hlo
    | some y =>
      obtain ⟨k, hk⟩ := hlo
      have := hr y (by simp [ho, Op.operands])
      rw [hk] at this
      exact ⟨k, this.int_inv⟩
  have hhi' : match hi with | none => r = n | some y => ∃ k, e y = .int k (r : Int) := by
    cases hi with
    | none => exact hhi
    | some y =>
      obtain ⟨k, hk⟩ := hhi
      have := hr y (by simp [ho, Op.operands])
      rw [hk] at this
      exact ⟨k, this.int_inv⟩
  have hb1 : (0 : Int) ≤ (r : Int) ∧ (r : Int) ≤ (cap : Int) := by omega
  have hb2 : (0 : Int) ≤ (l : Int) ∧ (l : Int) ≤ (r : Int) := by omega
  refine ⟨.slice (some ⟨b, if cap = l then off else off + l * sz, none⟩) (r - l) (cap - l), ?_, .row _ _ _ hl⟩
  unfold execOp
  simp only [ho, Sem.run_bind]
  rw [hv]
  have haddr : (if cap = l then some (⟨b, off, none⟩ : Addr) else some ((⟨b, off, none⟩ : Addr).add (l * sz))) = some ⟨b, if cap = l then off else off + l * sz, none⟩ := by
    split
    · rfl
    · rw [add_mk]
  cases lo with
  | none =>
    simp only at hlo'; subst hlo'
    cases hi with
    | none =>
      simp only at hhi'; subst hhi'
      by_cases hcl : cap = 0
      · subst hcl; simp [Instr.sliceAt, Instr.slice, run_underlying h1, Instr.sliceBounds, h2.run_size, h3]
      · simp [Instr.sliceAt, Instr.slice, run_underlying h1, Instr.sliceBounds, h2.run_size, h3, hcl, add_mk]
    | some y =>
      obtain ⟨k, hk⟩ := hhi'
      by_cases hcl : cap = 0
      · have hr0 : r = 0 := by omega
        subst hcl; subst hr0
        have hb3 := fun (w : World) => run_bound_in (P := P) (w := w) k ((0 : Nat) : Int) 0 .sliceAcap hb1
        simp only [Int.natCast_zero, Int.toNat_zero] at hb3
        simp [Instr.sliceAt, Instr.slice, run_underlying h1, Instr.sliceBounds, h2.run_size, h3, hk, hb3]
      · simp [Instr.sliceAt, Instr.slice, run_underlying h1, Instr.sliceBounds, h2.run_size, h3, hk, run_bound_in _ _ _ _ hb1, hcl, add_mk]
  | some yl =>
    obtain ⟨kl, hkl⟩ := hlo'
    cases hi with
    | none =>
      simp only at hhi'; subst hhi'
      by_cases hcl : cap = l
      · have : r = l := by omega
        subst hcl; subst this; simp [Instr.sliceAt, Instr.slice, run_underlying h1, Instr.sliceBounds, h2.run_size, h3, hkl, run_bound_in _ _ _ _ hb2]
      · simp [Instr.sliceAt, Instr.slice, run_underlying h1, Instr.sliceBounds, h2.run_size, h3, hkl, run_bound_in _ _ _ _ hb2, hcl, add_mk]
    | some y =>
      obtain ⟨k, hk⟩ := hhi'
      by_cases hcl : cap = l
      · have : r = l := by omega
        subst hcl; subst this; simp [Instr.sliceAt, Instr.slice, run_underlying h1, Instr.sliceBounds, h2.run_size, h3, hkl, hk, run_bound_in _ _ _ _ hb1, run_bound_in _ _ _ _ hb2]
      · simp [Instr.sliceAt, Instr.slice, run_underlying h1, Instr.sliceBounds, h2.run_size, h3, hkl, hk, run_bound_in _ _ _ _ hb1, run_bound_in _ _ _ _ hb2, hcl, add_mk]

/-- Bytes as cells. -/
def byteAV (s : List UInt8) : List AV := s.map fun b => .d (.int .u8 (b.toNat : Int))

/-- An owned row of bytes as text. -/
theorem rowStr_ok (hT : TOk P T) {t t2 i off n cap : Nat} {x : Operand} {cells : List AV} {s : List UInt8} (ho : o.op = .convert t t2 x) (hb : (isByteSlice T t && isStrT T t2) = true) (hx : ρ x = .row i off n cap) (hi : h[i]? = some (.row cells))
    (hs : s.length = n) (hc : ∀ (j : Nat) (c : UInt8), s[j]? = some c → cells[off + j]? = some (.d (.int .u8 (c.toNat : Int)))) : OpS P E o ρ h (.d (.str s)) h :=
  OpS_of_run fun G e w hw hr => by
    have hx' : RepA G (ρ x) (e x) := hr x (by simp [ho, Op.operands])
    rw [hx] at hx'
    obtain ⟨b, hv, hl⟩ := hx'.row_inv
    obtain ⟨b', hl', hown, hrow, himm⟩ := hw.obj i _ hi
    rw [hl] at hl'; cases hl'
    simp only [Bool.and_eq_true] at hb
    obtain ⟨et, h1, h2⟩ := isByteSlice_ok hT hb.1
    have h3 := und_of_str hT hb.2
    let ns : List Int := s.map fun c => (c.toNat : Int)
    have hnl : ns.length = n := by simp [ns, hs]
    have hld : (loadCells ⟨b, off, none⟩ n).run P w = .ok (ns.map (Value.int .u8)).toArray w := by
      have := run_loadCells (P := P) w ⟨b, off, none⟩ n (fun j => Value.int .u8 (ns.getD j 0)) (fun j hj => by
        have hsj : s[j]? = some s[j] := by simp [hs, hj]
        obtain ⟨u, u1, u2, u3, _⟩ := hrow _ _ (hc j _ hsj)
        rw [u3.int_inv] at u1
        rw [add_mk, u1]
        simp [List.getD, ns, hs, hj])
      rw [this]
      congr 2
      apply List.ext_getElem?
      intro j
      by_cases hj : j < n
      · have hj' : j < ns.length := by omega
        simp [hj, hj', List.getD]
      · have hj' : ¬ j < ns.length := by omega
        simp [hj, hj', List.getElem?_eq_none (Nat.le_of_not_lt hj')]
    refine ⟨.string ⟨s.toArray⟩, w, G, ?_, .refl G, hw, .d (.str _)⟩
    unfold execOp
    simp only [ho, Sem.run_bind]
    rw [hv]
    have hmap : (ns.map fun n => UInt8.ofNat n.toNat) = s := by simp [ns, Function.comp_def]
    simp [Go.convert, run_underlying h1, run_underlying h2, run_underlying h3, run_bytesToString w _ n cap ns hld, foldl_push, hmap]
end

/-! ### an owned row handed on as data that does not turn -/
theorem WRel.freeze {E : Env} {G : Gh} {h : List AObj} {w : World} {i b : Nat} {cells : List AV} (hw : WRel E G h w) (hi : h[i]? = some (.row cells)) (hl : G.loc i = some b) :
    let G' : Gh := { G with imm := fun a => if a.block = b ∧ a.spot = none ∧ a.off < cells.length then w.cell? a else G.imm a }
    G.le G' ∧ WRel E G' (h.set i .dead) w ∧ ∀ (j : Nat) (d : Dat) (c : AV), cells[j]? = some c → toDat c = some d → ∃ u, G'.imm ⟨b, j, none⟩ = some u ∧ RepD G'.imm d u := by
  intro G'
  obtain ⟨b', hl', hown, hrow, himm⟩ := hw.obj i _ hi
  rw [hl] at hl'; cases hl'
  have hle : G.le G' := by
    refine ⟨fun a v hv => ?_, fun _ _ h => h, fun _ _ _ h => h, fun _ _ h => h⟩
    have hne : ¬ (a.block = b ∧ a.spot = none ∧ a.off < cells.length) := fun hh => by rw [himm.1 a hh.1] at hv; cases hv
    show (if _ then _ else _) = _
    rw [if_neg hne]; exact hv
  refine ⟨hle, ?_, fun j d c hc hd => ?_⟩
  · refine ⟨hw.le.trans hle, fun a v hv => ?_, fun a v hv => ?_, hw.keep, hw.size, hw.os, hw.tape, hw.output, hw.own, fun k hk => hw.fresh k (by simpa using hk), fun k o hk => ?_⟩
    · simp only [G'] at hv
      split at hv
      · exact hv
      · exact hw.imm a v hv
    · simp only [G'] at hv
      split at hv
      · rename_i hh
        right; rw [hh.1]; exact (hw.own b i hown).2
      · exact hw.immNew a v hv
    · rw [List.getElem?_set] at hk
      by_cases hik : i = k
      · subst hik
        simp only [if_true] at hk
        split at hk
        · cases hk; trivial
        · cases hk
      · rw [if_neg hik] at hk
        refine (hw.obj k o hk).keep hle (fun c hc => ⟨rfl, fun a ha => ?_⟩) (fun _ h => h) (fun h => h)
        have hcb : c ≠ b := fun hh => by subst hh; rw [hown] at hc; cases hc; exact hik rfl
        simp only [G']
        rw [if_neg (fun hh => hcb (ha.symm.trans hh.1))]
  · obtain ⟨u, u1, u2, u3, _⟩ := hrow j c hc
    refine ⟨u, ?_, (toDat_ok u3 hd).mono hle.imm⟩
    simp only [G']
    have hlt := (List.getElem?_eq_some_iff.1 hc).1
    simp [hlt, u1]

/-- What a row holds from a place on, as elements. -/
def RowDat (cells : List AV) (off sz : Nat) (es : List (List Dat)) : Prop :=
  (∀ e, e ∈ es → e.length = sz) ∧ ∀ (i : Nat) (e : List Dat) (j : Nat) (d : Dat), es[i]? = some e → e[j]? = some d → ∃ c, cells[off + (i * sz + j)]? = some c ∧ toDat c = some d

theorem Rel_freeze {E : Env} {N : Nat} {l : List (Nat × AV)} {h : List AObj} {t i off n cap sz : Nat} {cells : List AV} {es : List (List Dat)} (ht : look l t = .row i off n cap) (hi : h[i]? = some (.row cells)) (hn : es.length = n) (hcap : n ≤ cap) (hd : RowDat cells off sz es) :
    ∀ a w, Rel E N (look l) h a w → Rel E N (look ((t, .d (.sl sz es)) :: l)) (h.set i .dead) a w := by
  intro a w ⟨h1, h2, G, hw, hr⟩
  have hx := hr t
  rw [ht] at hx
  obtain ⟨b, hv, hl⟩ := hx.row_inv
  obtain ⟨hle, hw', hc⟩ := hw.freeze hi hl
  refine ⟨h1, h2, _, hw', fun s => ?_⟩
  show RepA _ (bif Nat.beq s t then _ else look l s) _
  cases hb : Nat.beq s t with
  | false => exact (hr s).mono hle
  | true =>
    obtain rfl := Nat.eq_of_beq_eq_true hb
    rw [hv]
    subst hn
    have hex : ∀ (k : Nat), ∃ u : Value, ∀ (i : Nat) (e : List Dat) (j : Nat) (d : Dat), es[i]? = some e → e[j]? = some d → i * sz + j = k →
        ({ G with imm := fun a => if a.block = b ∧ a.spot = none ∧ a.off < cells.length then w.cell? a else G.imm a } : Gh).imm ⟨b, off + k, none⟩ = some u := by
      intro k
      rcases hh : ({ G with imm := fun a => if a.block = b ∧ a.spot = none ∧ a.off < cells.length then w.cell? a else G.imm a } : Gh).imm ⟨b, off + k, none⟩ with _ | u
      · refine ⟨undef, fun i e j d he hj hk => ?_⟩
        obtain ⟨c, g1, g2⟩ := hd.2 i e j d he hj
        obtain ⟨u, g3, _⟩ := hc _ d c g1 g2
        rw [hk] at g3
        rw [hh] at g3; cases g3
      · exact ⟨u, fun _ _ _ _ _ _ _ => rfl⟩
    refine .d (.sl sz es ⟨b, off, none⟩ cap (fun k => Classical.choose (hex k)) rfl hcap hd.1 (fun i e j d he hj => ?_) (fun i e j d he hj => ?_))
    · rw [add_mk]
      exact Classical.choose_spec (hex (i * sz + j)) i e j d he hj rfl
    · have := Classical.choose_spec (hex (i * sz + j)) i e j d he hj rfl
      obtain ⟨c, g1, g2⟩ := hd.2 i e j d he hj
      obtain ⟨u, g3, g4⟩ := hc _ d c g1 g2
      have hu := Option.some.inj (g3.symm.trans this)
      exact hu ▸ g4

theorem AW_freeze {P : Program} {E : Env} {N : Nat} {Q : Exit → (Nat → AV) → List AObj → Prop} {c : Code} {l : List (Nat × AV)} {h : List AObj} (t i sz : Nat) {off n cap : Nat} {cells : List AV} (es : List (List Dat)) (ht : look l t = .row i off n cap) (hi : h[i]? = some (.row cells))
    (hn : es.length = n) (hcap : n ≤ cap) (hd : RowDat cells off sz es) (hc : AW P E N c Q (look ((t, .d (.sl sz es)) :: l)) (h.set i .dead)) : AW P E N c Q (look l) h :=
  AW_sub (Rel_freeze ht hi hn hcap hd) hc
end Tdoc
