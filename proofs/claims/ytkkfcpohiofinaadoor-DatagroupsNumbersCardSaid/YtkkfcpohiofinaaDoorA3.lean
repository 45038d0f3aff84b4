/- More pure operations: moves, picks, fields, indices, parts of strings and slices, lengths, loads of immutable cells. No program is named here. -/
import Derived.Test.YtkkfcpohiofinaaDoorA2
import Derived.Laws.Tables
import Derived.Great.BuildSlice
set_option linter.unusedSimpArgs false
set_option linter.unusedVariables false
namespace Tdoc
open Go

theorem add_add (a : Addr) (h : a.spot = none) (x y : Nat) : (a.add x).add y = a.add (x + y) := by
  obtain ⟨b, o, s⟩ := a
  simp only at h; subst h
  unfold Addr.add
  by_cases hx : x = 0
  · subst hx; simp
  · by_cases hy : y = 0
    · subst hy; simp [hx]
    · simp [hx, hy, show x + y ≠ 0 by omega, Nat.add_assoc]
theorem add_spot (a : Addr) (h : a.spot = none) (x : Nat) : (a.add x).spot = none := by unfold Addr.add; split <;> simp_all
theorem add_block (a : Addr) (x : Nat) : (a.add x).block = a.block := by unfold Addr.add; split <;> simp_all
theorem add_mk (b o x : Nat) : (⟨b, o, none⟩ : Addr).add x = ⟨b, o + x, none⟩ := by unfold Addr.add; split <;> simp_all
theorem add_off (a : Addr) (h : a.spot = none) (x : Nat) : a.add x = ⟨a.block, a.off + x, none⟩ := by
  obtain ⟨b, o, s⟩ := a
  simp only at h; subst h
  exact add_mk b o x

/-- Scalars: the abstract value tells that the concrete one takes one cell. -/
def scalarA : AV → Bool
  | .agg _ | .tup _ | .gd _ _ | .any => false
  | _ => true

theorem scalar_one {G : Gh} {x : AV} {v : Value} (h : RepA G x v) (hs : scalarA x = true) : oneC v = true := by
  cases h with
  | d r => exact r.one
  | sl r _ => exact r.one
  | agg _ _ _ _ => cases hs
  | tup _ _ _ => cases hs
  | gd _ _ => cases hs
  | any => cases hs
  | _ => rfl

def cellsA (v : AV) : Option (List AV) := match v with
  | .agg cs => some cs
  | v => match scalarA v with
    | true => some [v]
    | false => none

theorem one_cells {v : Value} (h : oneC v = true) : v.cells = #[v] := by cases v <;> first | rfl | cases h

theorem cellsA_ok {G : Gh} {x : AV} {v : Value} {cs : List AV} (h : RepA G x v) (hc : cellsA x = some cs) :
    v.cells.size = cs.length ∧ ∀ (j : Nat) (c : AV) (u : Value), cs[j]? = some c → v.cells[j]? = some u → RepA G c u ∧ oneC u = true := by
  have one : scalarA x = true → cs = [x] → v.cells.size = cs.length ∧ ∀ (j : Nat) (c : AV) (u : Value), cs[j]? = some c → v.cells[j]? = some u → RepA G c u ∧ oneC u = true := by
    intro hs hcs
    subst hcs
    have h1 := scalar_one h hs
    rw [one_cells h1]
    refine ⟨rfl, fun j c u hc hu => ?_⟩
    cases j with
    | zero => simp at hc hu; subst hc; subst hu; exact ⟨h, h1⟩
    | succ j => simp at hc
  cases h with
  | agg vs h1 h2 h3 =>
    simp only [cellsA, Option.some.injEq] at hc
    subst hc
    exact ⟨h1, fun j c u hc hu => ⟨h2 j c u hc hu, h3 j u hu⟩⟩
  | tup _ _ _ => simp [cellsA, scalarA] at hc
  | gd _ _ => simp [cellsA, scalarA] at hc
  | any => simp [cellsA, scalarA] at hc
  | _ => exact one rfl (by simpa [cellsA, scalarA] using hc.symm)

def toDat : AV → Option Dat
  | .d x => some x
  | .sl sz es _ => some (.sl sz es)
  | _ => none

theorem toDat_ok {G : Gh} {x : AV} {v : Value} {y : Dat} (h : RepA G x v) (hc : toDat x = some y) : RepD G.imm y v := by
  cases h with
  | d r => simp only [toDat, Option.some.injEq] at hc; subst hc; exact r
  | sl r _ => simp only [toDat, Option.some.injEq] at hc; subst hc; exact r
  | _ => cases hc

def asEs : AV → Option (Nat × List (List Dat))
  | .d (.sl sz es) => some (sz, es)
  | .sl sz es _ => some (sz, es)
  | _ => none

theorem asEs_ok {G : Gh} {x : AV} {v : Value} {sz : Nat} {es : List (List Dat)} (h : RepA G x v) (hc : asEs x = some (sz, es)) : RepD G.imm (.sl sz es) v := by
  cases h with
  | d r =>
    unfold asEs at hc
    split at hc
    · rename_i he; cases he; cases hc; exact r
    · rename_i he; cases he
    · cases hc
  | sl r _ => simp only [asEs, Option.some.injEq, Prod.mk.injEq] at hc; obtain ⟨rfl, rfl⟩ := hc; exact r
  | _ => cases hc

theorem RepD.slice_inv {m : Addr → Option Value} {sz : Nat} {es : List (List Dat)} {v : Value} (h : RepD m (.sl sz es) v) :
    ∃ a cap, v = .slice a es.length cap ∧ (a = none → es = [] ∧ cap = 0) ∧ ∀ p, a = some p → p.spot = none ∧ es.length ≤ cap ∧ (∀ e, e ∈ es → e.length = sz) ∧
      ∃ vs : Nat → Value, (∀ (i : Nat) (e : List Dat) (j : Nat) (d : Dat), es[i]? = some e → e[j]? = some d → m (p.add (i * sz + j)) = some (vs (i * sz + j))) ∧
        (∀ (i : Nat) (e : List Dat) (j : Nat) (d : Dat), es[i]? = some e → e[j]? = some d → RepD m d (vs (i * sz + j))) := by
  cases h with
  | nil => exact ⟨none, 0, rfl, ⟨fun _ => ⟨rfl, rfl⟩, fun p h => (by cases h)⟩⟩
  | sl _ _ a cap vs h1 h2 h3 h4 h5 => exact ⟨some a, cap, rfl, ⟨fun h => (by cases h), fun p h => (by cases h; exact ⟨h1, h2, h3, vs, h4, h5⟩)⟩⟩

def sliceElem (T : Tr) (t sz : Nat) : Bool := match T.find t with
  | some i => match i.kind with
    | .slice e => match T.find e with
      | some ie => Nat.beq ie.size sz
      | none => false
    | _ => false
  | none => false

theorem sliceElem_ok {P : Program} {T : Tr} (hT : TOk P T) {t sz : Nat} (h : sliceElem T t sz = true) : ∃ e ie, P.underlying t = some (.slice e) ∧ TypeAt P e ie ∧ ie.size = sz := by
  unfold sliceElem at h
  split at h
  · rename_i i hi
    split at h
    · rename_i e hk
      split at h
      · rename_i ie hie
        obtain ⟨d, hd, hkd⟩ := (hT.at hi).und
        rw [hk] at hkd
        cases d <;> simp [kindOk] at hkd
        subst hkd
        exact ⟨e, ie, hd, hT.at hie, Nat.eq_of_beq_eq_true h⟩
      · cases h
    · cases h
  · cases h

def isStrT (T : Tr) (t : Nat) : Bool := match T.find t with
  | some i => match i.kind with | .str => true | _ => false
  | none => false

theorem und_of_str {P : Program} {T : Tr} (hT : TOk P T) {t : Nat} (h : isStrT T t = true) : P.underlying t = some .string := by
  unfold isStrT at h
  split at h
  · rename_i i hi
    split at h
    · rename_i hk
      obtain ⟨d, hd, hkd⟩ := (hT.at hi).und
      rw [hk] at hkd
      cases d <;> simp [kindOk] at hkd
      exact hd
    · cases h
  · cases h

def isSliceT (T : Tr) (t : Nat) : Bool := match T.find t with
  | some i => match i.kind with | .slice _ => true | _ => false
  | none => false

theorem und_of_slice {P : Program} {T : Tr} (hT : TOk P T) {t : Nat} (h : isSliceT T t = true) : ∃ e, P.underlying t = some (.slice e) := by
  unfold isSliceT at h
  split at h
  · rename_i i hi
    split at h
    · rename_i e hk
      obtain ⟨d, hd, hkd⟩ := (hT.at hi).und
      rw [hk] at hkd
      cases d <;> simp [kindOk] at hkd
      exact ⟨_, hd⟩
    · cases h
  · cases h

def intKindT (T : Tr) (t : Nat) : Option IntKind := match T.find t with
  | some i => match i.kind with | .int k => some k | _ => none
  | none => none

theorem und_of_int {P : Program} {T : Tr} (hT : TOk P T) {t : Nat} {k : IntKind} (h : intKindT T t = some k) : P.underlying t = some (.int k) := by
  unfold intKindT at h
  split at h
  · rename_i i hi
    split at h
    · rename_i k' hk
      cases h
      obtain ⟨d, hd, hkd⟩ := (hT.at hi).und
      rw [hk] at hkd
      cases d <;> simp [kindOk] at hkd
      rw [kEq_eq hkd]; exact hd
    · cases h
  · cases h

/-- The fields of a struct type: offset, size, whether it is taken as a whole. -/
def fieldT (T : Tr) (t f : Nat) : Option (Nat × Nat × Bool) := match T.find t with
  | some i => match i.kind with
    | .struct fs => fs[f]?
    | _ => none
  | none => none

theorem fieldsOf_at {P : Program} : ∀ {fields : List Field} {fs : List (Nat × Nat × Bool)} {f o s : Nat} {g : Bool}, fieldsOf P fields fs = true → fs[f]? = some (o, s, g) →
    ∃ fd, fields[f]? = some fd ∧ fd.offset = o ∧ (∃ i, P.info? fd.type = some i ∧ i.size = s) ∧ ∃ d, P.underlying fd.type = some d ∧ (match d with | .struct _ | .array _ _ => true | _ => false) = g
  | [], [], _, _, _, _, _, h => by simp at h
  | fd :: r, x :: l, f, o, s, g, hf, h => by
    obtain ⟨o', s', g'⟩ := x
    simp only [fieldsOf, Bool.and_eq_true] at hf
    obtain ⟨⟨⟨h1, h2⟩, h3⟩, h4⟩ := hf
    cases f with
    | zero =>
      simp only [List.getElem?_cons_zero, Option.some.injEq, Prod.mk.injEq] at h
      obtain ⟨rfl, rfl, rfl⟩ := h
      refine ⟨fd, by simp, Nat.eq_of_beq_eq_true h1, ?_, ?_⟩
      · split at h2
        · rename_i i hi; exact ⟨i, hi, Nat.eq_of_beq_eq_true h2⟩
        · cases h2
      · cases hu : P.underlying fd.type with
        | none => simp [hu] at h3
        | some d => refine ⟨d, rfl, ?_⟩; cases d <;> simp_all
    | succ f =>
      obtain ⟨fd', h5, h6⟩ := fieldsOf_at h4 (by simpa using h)
      exact ⟨fd', by simpa using h5, h6⟩
  | [], _ :: _, _, _, _, _, h, _ => by simp [fieldsOf] at h
  | _ :: _, [], _, _, _, _, h, _ => by simp [fieldsOf] at h

theorem fieldT_ok {P : Program} {T : Tr} (hT : TOk P T) {t f o s : Nat} {g : Bool} (h : fieldT T t f = some (o, s, g)) :
    ∃ fields fd, P.underlying t = some (.struct fields) ∧ fields[f]? = some fd ∧ fd.offset = o ∧ (∃ i, P.info? fd.type = some i ∧ i.size = s) ∧
      ∃ d, P.underlying fd.type = some d ∧ (match d with | .struct _ | .array _ _ => true | _ => false) = g := by
  unfold fieldT at h
  split at h
  · rename_i i hi
    split at h
    · rename_i fs hk
      obtain ⟨d, hd, hkd⟩ := (hT.at hi).und
      rw [hk] at hkd
      cases d <;> simp [kindOk] at hkd
      rename_i fields
      obtain ⟨fd, h1, h2⟩ := fieldsOf_at hkd h
      exact ⟨fields, fd, hd, by simpa using h1, h2⟩
    · cases h
  · cases h

/-! ### the operations -/
section ops
variable {P : Program} {T : Tr} {o : Oper} {ρ : Operand → AV} {v : AV}

theorem move_ok {x : Operand} (ho : o.op = .move x ∨ o.op = .assign x) : OpP P o ρ (ρ x) := by
  intro G e w hi hr
  have hx : RepA G (ρ x) (e x) := hr x (by rcases ho with ho | ho <;> simp [ho, Op.operands])
  refine ⟨e x, ?_, hx⟩
  unfold execOp
  rcases ho with ho | ho <;> simp [ho]

def pickAnd (c a : AV) : Option (AV × Prop) := match c with
  | .d (.bool c0) => match a with
    | .gd g (.d (.bool x)) => some (.d (.bool (c0 && x)), c0 = true → g = true)
    | .d (.bool x) => some (.d (.bool (c0 && x)), True)
    | _ => none
  | _ => none

def pickOr (c b : AV) : Option (AV × Prop) := match c with
  | .d (.bool c0) => match b with
    | .gd g (.d (.bool x)) => some (.d (.bool (c0 || x)), c0 = false → g = true)
    | .d (.bool x) => some (.d (.bool (c0 || x)), True)
    | _ => none
  | _ => none

theorem pickAnd_ok {c a : Operand} (hρ : ∀ z, ρ (.const z) = ofVal z) (ho : o.op = .pick c a (.const (.bool false))) {C : Prop} (h : pickAnd (ρ c) (ρ a) = some (v, C)) (hC : C) : OpP P o ρ v := by
  intro G e w hi hr
  have hc : RepA G (ρ c) (e c) := hr c (by simp [ho, Op.operands])
  have ha : RepA G (ρ a) (e a) := hr a (by simp [ho, Op.operands])
  have hb : RepA G (ρ (.const (.bool false))) (e (.const (.bool false))) := hr _ (by simp [ho, Op.operands])
  rw [hρ] at hb
  have hb' : e (.const (.bool false)) = .bool false := RepA.bool_inv hb
  unfold execOp
  simp only [ho, Sem.run_bind]
  unfold pickAnd at h
  split at h
  · rename_i c0 hce
    rw [hce] at hc
    rw [hc.bool_inv, hb']
    split at h
    · rename_i g x hae
      rw [hae] at ha
      cases h
      cases c0 with
      | true => exact ⟨_, rfl, ha.gd_inv (hC rfl)⟩
      | false => exact ⟨_, rfl, .d (.bool _)⟩
    · rename_i x hae
      rw [hae] at ha
      cases h
      cases c0 with
      | true => exact ⟨_, rfl, ha⟩
      | false => exact ⟨_, rfl, .d (.bool _)⟩
    · cases h
  · cases h

theorem pickOr_ok {c b : Operand} (hρ : ∀ z, ρ (.const z) = ofVal z) (ho : o.op = .pick c (.const (.bool true)) b) {C : Prop} (h : pickOr (ρ c) (ρ b) = some (v, C)) (hC : C) : OpP P o ρ v := by
  intro G e w hi hr
  have hc : RepA G (ρ c) (e c) := hr c (by simp [ho, Op.operands])
  have ha : RepA G (ρ b) (e b) := hr b (by simp [ho, Op.operands])
  have hb : RepA G (ρ (.const (.bool true))) (e (.const (.bool true))) := hr _ (by simp [ho, Op.operands])
  rw [hρ] at hb
  have hb' : e (.const (.bool true)) = .bool true := RepA.bool_inv hb
  unfold execOp
  simp only [ho, Sem.run_bind]
  unfold pickOr at h
  split at h
  · rename_i c0 hce
    rw [hce] at hc
    rw [hc.bool_inv, hb']
    split at h
    · rename_i g x hae
      rw [hae] at ha
      cases h
      cases c0 with
      | true => exact ⟨_, rfl, .d (.bool _)⟩
      | false => exact ⟨_, rfl, ha.gd_inv (hC rfl)⟩
    · rename_i x hae
      rw [hae] at ha
      cases h
      cases c0 with
      | true => exact ⟨_, rfl, .d (.bool _)⟩
      | false => exact ⟨_, rfl, ha⟩
    · cases h
  · cases h

def nilOk : AV → Bool
  | .ptr _ _ | .iptr _ | .bp _ _ _ => true
  | .fn (.func _) _ _ => true
  | _ => false

theorem nilCheck_ok {x : Operand} (ho : o.op = .nilCheck x) (h : nilOk (ρ x) = true) : OpP P o ρ (ρ x) := by
  intro G e w hi hr
  have hx : RepA G (ρ x) (e x) := hr x (by simp [ho, Op.operands])
  refine ⟨e x, ?_, hx⟩
  unfold execOp
  simp only [ho, Sem.run_bind]
  generalize ρ x = a at hx h
  generalize e x = u at hx
  cases hx with
  | ptr => rfl
  | iptr => rfl
  | bp => rfl
  | fn f fs cs _ _ _ _ => cases f <;> simp [nilOk] at h; rfl
  | _ => cases h

theorem makeFunc_ok {f : Fn} {first cap : Array Operand} (ho : o.op = .makeFunc f first cap) : OpP P o ρ (.fn f (first.toList.map ρ) (cap.toList.map ρ)) := by
  intro G e w hi hr
  have hx : ∀ x, x ∈ first.toList ∨ x ∈ cap.toList → RepA G (ρ x) (e x) := fun x hx => hr x (by simp [ho, Op.operands]; simpa using hx)
  refine ⟨.func f (first.map e) (cap.map e), ?_, .fn f _ _ (by simp) (by simp) (fun j x v h1 h2 => ?_) (fun j x v h1 h2 => ?_)⟩
  · unfold execOp; simp [ho, Instr.makeFunc]
  · simp only [List.getElem?_map, Option.map_eq_some_iff, Array.getElem?_map, Array.getElem?_toList] at h1 h2
    obtain ⟨y, hy, rfl⟩ := h1
    obtain ⟨z, hz, rfl⟩ := h2
    rw [hy] at hz; cases hz
    exact hx y (.inl (List.mem_of_getElem? (by simpa using hy)))
  · simp only [List.getElem?_map, Option.map_eq_some_iff, Array.getElem?_map, Array.getElem?_toList] at h1 h2
    obtain ⟨y, hy, rfl⟩ := h1
    obtain ⟨z, hz, rfl⟩ := h2
    rw [hy] at hz; cases hz
    exact hx y (.inr (List.mem_of_getElem? (by simpa using hy)))

def faddr (T : Tr) (t f : Nat) (x : AV) : Option AV := match fieldT T t f with
  | some (o, s, _) => match Nat.beq s 0 with
    | true => none
    | false => match x with
      | .ptr i off => some (.ptr i (off + o))
      | .iptr cs => some (.iptr (cs.drop o))
      | _ => none
  | none => none

theorem iptr_drop {G : Gh} {cs : List Dat} {v : Value} (h : RepA G (.iptr cs) v) (k : Nat) : ∃ a, v = .pointer (some a) ∧ RepA G (.iptr (cs.drop k)) (.pointer (some (a.add k))) := by
  cases h with
  | iptr a vs h1 h2 h3 =>
    refine ⟨a, rfl, .iptr _ (fun j => vs (k + j)) (add_spot a h1 k) (fun j d hd => ?_) (fun j d hd => ?_)⟩
    · rw [add_add a h1]; exact h2 _ d (by simpa using hd)
    · exact h3 _ d (by simpa using hd)

theorem fieldAddr_ok (hT : TOk P T) {t f : Nat} {x : Operand} (ho : o.op = .fieldAddr t x f) (h : faddr T t f (ρ x) = some v) : OpP P o ρ v := by
  intro G e w hi hr
  have hx : RepA G (ρ x) (e x) := hr x (by simp [ho, Op.operands])
  unfold faddr at h
  split at h
  · rename_i of s g hf
    obtain ⟨fields, fd, h1, h2, h3, ⟨i, h4, h5⟩, h6⟩ := fieldT_ok hT hf
    split at h
    · cases h
    · rename_i hs
      have hs' : ¬ s = 0 := fun hh => by subst hh; simp at hs
      have hrun : ∀ a : Addr, (Instr.fieldAt t (.pointer (some a)) f).run P w = .ok (.pointer (some (a.add of))) w := by
        intro a
        simp [Instr.fieldAt, run_underlying h1, h2, Instr.sureAddr, fieldPlace, Go.sizeOf, typeInfo, h4, h5, hs', h3]
      unfold execOp
      simp only [ho, Sem.run_bind]
      split at h
      · rename_i i' off hxe
        cases h
        rw [hxe] at hx
        obtain ⟨b, hb, hl⟩ := hx.ptr_inv
        rw [hb, hrun, add_mk]
        exact ⟨_, rfl, .ptr _ hl⟩
      · rename_i cs hxe
        cases h
        rw [hxe] at hx
        obtain ⟨a, ha, hra⟩ := iptr_drop hx of
        rw [ha, hrun]
        exact ⟨_, rfl, hra⟩
      · cases h
  · cases h

/-- A part of an aggregate. -/
def partA (T : Tr) (t f : Nat) (x : AV) : Option AV := match fieldT T t f with
  | some (o, s, g) => match x with
    | .agg cs => match g with
      | true => match Nat.ble (o + s) cs.length with
        | true => some (.agg ((cs.drop o).take s))
        | false => none
      | false => cs[o]?
    | _ => none
  | none => none

theorem field_ok (hT : TOk P T) {t f : Nat} {x : Operand} (ho : o.op = .field t x f) (h : partA T t f (ρ x) = some v) : OpP P o ρ v := by
  intro G e w hi hr
  have hx : RepA G (ρ x) (e x) := hr x (by simp [ho, Op.operands])
  unfold partA at h
  split at h
  · rename_i of s g hf
    obtain ⟨fields, fd, h1, h2, h3, ⟨i, h4, h5⟩, d, h6, h7⟩ := fieldT_ok hT hf
    split at h
    · rename_i cs hxe
      rw [hxe] at hx
      generalize hu : e x = u at hx
      cases hx with
      | agg vs k1 k2 k3 =>
      have hagg : (isAgg fd.type).run P w = .ok g w := by
        unfold isAgg
        rw [Sem.run_bind, run_underlying h6 w]
        cases d <;> simp_all
      unfold execOp
      simp only [ho, Sem.run_bind]
      split at h
      · split at h
        · rename_i hble
          have hle : of + s ≤ cs.length := Nat.le_of_ble_eq_true hble
          cases h
          refine ⟨.agg (vs.extract of (of + s)), ?_, .agg _ ?_ (fun j c y hc hy => ?_) (fun j y hy => ?_)⟩
          · simp [Instr.field, hu, run_underlying h1, h2, asAgg, part, hagg, Go.sizeOf, typeInfo, h4, h5, h3]
          · simp; omega
          · simp only [List.getElem?_take, List.getElem?_drop, Array.getElem?_extract] at hc hy
            split at hc
            · split at hy
              · exact k2 _ c y hc hy
              · cases hy
            · cases hc
          · simp only [Array.getElem?_extract] at hy
            split at hy
            · exact k3 _ y hy
            · cases hy
        · cases h
      · have hlt : of < vs.size := by
          rw [k1]
          exact (List.getElem?_eq_some_iff.1 h).1
        obtain ⟨y, hy⟩ : ∃ y, vs[of]? = some y := ⟨vs[of], by simp [hlt]⟩
        refine ⟨y, ?_, k2 _ _ _ h hy⟩
        simp [Instr.field, hu, run_underlying h1, h2, asAgg, part, hagg, h3, hy]
    · cases h
  · cases h

/-- The address of an element of an immutable slice. -/
theorem indexAddr_ok (hT : TOk P T) {t sz : Nat} {x ix : Operand} {k : IntKind} {i : Int} {es : List (List Dat)} {el : List Dat} (ho : o.op = .indexAddr t x ix) (hs : sliceElem T t sz = true)
    (hx : asEs (ρ x) = some (sz, es)) (hix : ρ ix = .d (.int k i)) (h0 : 0 ≤ i) (hel : es[i.toNat]? = some el) : OpP P o ρ (.iptr el) := by
  intro G e w hi hr
  have hx' : RepD G.imm (.sl sz es) (e x) := asEs_ok (hr x (by simp [ho, Op.operands])) hx
  have hix' : RepA G (ρ ix) (e ix) := hr ix (by simp [ho, Op.operands])
  rw [hix] at hix'
  obtain ⟨et, ie, h1, h2, h3⟩ := sliceElem_ok hT hs
  obtain ⟨a, cap, hv, hn, hp⟩ := hx'.slice_inv
  have hlt : i.toNat < es.length := (List.getElem?_eq_some_iff.1 hel).1
  cases a with
  | none => have := (hn rfl).1; subst this; simp at hlt
  | some p =>
    obtain ⟨p1, p2, p3, vs, p4, p5⟩ := hp p rfl
    have hlti : i < (es.length : Int) := by omega
    refine ⟨.pointer (some (p.add (i.toNat * sz))), ?_, .iptr _ (fun j => vs (i.toNat * sz + j)) (add_spot p p1 _) (fun j d hd => ?_) (fun j d hd => p5 _ _ _ _ hel hd)⟩
    · unfold execOp
      simp only [ho, Sem.run_bind]
      rw [hv, hix'.int_inv]
      simp [Instr.indexAt, asIntOf, run_underlying h1, h0, hlti, h2.run_size, h3]
    · rw [add_add p p1]; exact p4 _ _ _ _ hel hd

def strAt (s : List UInt8) (i : Int) : Int := ((s[i.toNat]?.getD 0).toNat : Int)

/-- A byte of a string. -/
def indexStr (T : Tr) (t : Nat) (x ix : AV) : Option (AV × Prop) := match x with
  | .d (.str s) => match ix with
    | .d (.int _ i) => match isStrT T t with
      | true => some (.d (.int .u8 (strAt s i)), 0 ≤ i ∧ i < (s.length : Int))
      | false => none
    | _ => none
  | _ => none

theorem indexStr_ok (hT : TOk P T) {t : Nat} {x ix : Operand} (ho : o.op = .index t x ix) {C : Prop} (h : indexStr T t (ρ x) (ρ ix) = some (v, C)) (hC : C) : OpP P o ρ v := by
  intro G e w hi hr
  have hx : RepA G (ρ x) (e x) := hr x (by simp [ho, Op.operands])
  have hix : RepA G (ρ ix) (e ix) := hr ix (by simp [ho, Op.operands])
  unfold indexStr at h
  split at h
  · rename_i s hxe
    split at h
    · rename_i k i hie
      split at h
      · rename_i hs
        cases h
        rw [hxe] at hx
        rw [hie] at hix
        have hu := und_of_str hT hs
        refine ⟨.int .u8 (strAt s i), ?_, .d (.int _ _)⟩
        unfold execOp
        simp only [ho, Sem.run_bind]
        rw [hx.str_inv, hix.int_inv]
        have hlt : i.toNat < s.length := by omega
        have hg : (⟨s.toArray⟩ : ByteArray)[i.toNat]? = some (s[i.toNat]) := by
          rw [getElem?_pos _ _ (by rw [ba_size]; exact hlt)]
          rfl
        simp [Instr.index, asIntOf, run_underlying hu, hC.1, hg, strAt, hlt]
      · cases h
    · cases h
  · cases h

def optInt (ρ : Operand → AV) : Option Operand → Option (Option Int)
  | none => some none
  | some x => match ρ x with
    | .d (.int _ i) => some (some i)
    | _ => none

def cutL {α : Type} (s : List α) (l h : Int) : List α := (s.drop l.toNat).take (h.toNat - l.toNat)

/-- A part of a string or of an immutable slice. -/
def sliceA (T : Tr) (t : Nat) (x : AV) (lo hi : Option Int) : Option (AV × Prop) := match x with
  | .d (.str s) => match isStrT T t with
    | true => match lo, hi with
      | none, none => some (.d (.str s), True)
      | some l, none => some (.d (.str (s.drop l.toNat)), 0 ≤ l ∧ l ≤ (s.length : Int))
      | none, some h => some (.d (.str (s.take h.toNat)), 0 ≤ h ∧ h ≤ (s.length : Int))
      | some l, some h => some (.d (.str (cutL s l h)), 0 ≤ l ∧ l ≤ h ∧ h ≤ (s.length : Int))
    | false => none
  | x => match asEs x with
    | some (sz, es) => match sliceElem T t sz with
      | true => match lo, hi with
        | none, none => some (.d (.sl sz es), True)
        | some l, none => some (.d (.sl sz (es.drop l.toNat)), 0 ≤ l ∧ l ≤ (es.length : Int))
        | none, some h => some (.d (.sl sz (es.take h.toNat)), 0 ≤ h ∧ h ≤ (es.length : Int))
        | some l, some h => some (.d (.sl sz (cutL es l h)), 0 ≤ l ∧ l ≤ h ∧ h ≤ (es.length : Int))
      | false => none
    | none => none
end ops
end Tdoc
