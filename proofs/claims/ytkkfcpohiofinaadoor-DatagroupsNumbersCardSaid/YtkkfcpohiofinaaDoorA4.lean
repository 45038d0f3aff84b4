/- Parts of strings and slices, lengths, loads of immutable cells, aggregates, conversions; and all pure operations in one function. No program is named here. -/
import Derived.Test.YtkkfcpohiofinaaDoorA3
import Derived.Laws.BytesString
set_option linter.unusedSimpArgs false
set_option linter.unusedVariables false
namespace Tdoc
open Go

theorem RepD.cut {m : Addr → Option Value} {sz : Nat} {es : List (List Dat)} {a : Option Addr} {len cap : Nat} (h : RepD m (.sl sz es) (.slice a len cap)) {l r : Nat} (hl : l ≤ r) (hr : r ≤ len) :
    RepD m (.sl sz ((es.drop l).take (r - l))) (.slice (if cap = l then a else a.map (·.add (l * sz))) (r - l) (cap - l)) := by
  cases h with
  | nil =>
    obtain rfl : r = 0 := by omega
    obtain rfl : l = 0 := by omega
    exact .nil sz
  | sl _ _ p _ vs h1 h2 h3 h4 h5 =>
    have hlen : ((es.drop l).take (r - l)).length = r - l := by simp; omega
    by_cases hc : cap = l
    · have : (es.drop l).take (r - l) = [] := by
        apply List.eq_nil_of_length_eq_zero; rw [hlen]; omega
      rw [if_pos hc, this]
      have h0 : r - l = ([] : List (List Dat)).length := by simp; omega
      rw [h0]
      exact .sl sz [] p _ vs h1 (by simp) (fun e he => by cases he) (fun i e j d he => by simp at he) (fun i e j d he => by simp at he)
    · rw [if_neg hc]
      simp only [Option.map_some]
      rw [show r - l = ((es.drop l).take (r - l)).length from hlen.symm]
      rw [show ((es.drop l).take ((es.drop l).take (r - l)).length) = (es.drop l).take (r - l) by rw [hlen]]
      refine .sl sz _ (p.add (l * sz)) _ (fun i => vs (l * sz + i)) (add_spot p h1 _) (by rw [hlen]; omega) (fun e he => h3 e (List.mem_of_mem_drop (List.mem_of_mem_take he))) (fun i e j d he hd => ?_) (fun i e j d he hd => ?_)
      · simp only [List.getElem?_take, List.getElem?_drop] at he
        split at he
        · rw [add_add p h1]
          have := h4 (l + i) e j d he hd
          rwa [show (l + i) * sz + j = l * sz + (i * sz + j) by rw [Nat.add_mul]; omega] at this
        · cases he
      · simp only [List.getElem?_take, List.getElem?_drop] at he
        split at he
        · have := h5 (l + i) e j d he hd
          rwa [show (l + i) * sz + j = l * sz + (i * sz + j) by rw [Nat.add_mul]; omega] at this
        · cases he

section ops
variable {P : Program} {T : Tr} {o : Oper} {ρ : Operand → AV} {v : AV}

theorem optInt_some {G : Gh} {e : Operand → Value} {x : Option Operand} {r : Option Int} (hr : ∀ y, x = some y → RepA G (ρ y) (e y)) (h : optInt ρ x = some r) :
    (x = none ∧ r = none) ∨ ∃ y k i, x = some y ∧ r = some i ∧ e y = .int k i := by
  unfold optInt at h
  split at h
  · cases h; exact .inl ⟨rfl, rfl⟩
  · rename_i y
    split at h
    · rename_i k i hy
      cases h
      have := hr y rfl
      rw [hy] at this
      exact .inr ⟨y, k, i, rfl, rfl, this.int_inv⟩
    · cases h

theorem run_bound_in {w : World} (k : IntKind) (i : Int) (y : Nat) (code : BoundsCode) (h : 0 ≤ i ∧ i ≤ (y : Int)) : (Instr.sliceBound (.int k i) y code).run P w = .ok i.toNat w := by
  simp [Instr.sliceBound, asIntOf, h]

theorem sliceA_ok (hT : TOk P T) {t : Nat} {x : Operand} {lo hi : Option Operand} (ho : o.op = .slice t x lo hi none) {l h : Option Int} (hl : optInt ρ lo = some l) (hh : optInt ρ hi = some h) {C : Prop}
    (hv : sliceA T t (ρ x) l h = some (v, C)) (hC : C) : OpP P o ρ v := by
  intro G e w hi' hr
  have hx : RepA G (ρ x) (e x) := hr x (by simp [ho, Op.operands])
  have hlo := optInt_some (G := G) (e := e) (fun y hy => hr y (by simp [ho, Op.operands, hy])) hl
  have hhi := optInt_some (G := G) (e := e) (fun y hy => hr y (by simp [ho, Op.operands, hy])) hh
  unfold execOp
  simp only [ho, Sem.run_bind]
  unfold sliceA at hv
  split at hv
  · rename_i s hxe
    rw [hxe] at hx
    rw [hx.str_inv]
    split at hv
    · rename_i hst
      have hu := und_of_str hT hst
      have hext : ∀ a b : Nat, (⟨s.toArray⟩ : ByteArray).extract a b = ⟨((s.drop a).take (b - a)).toArray⟩ := by
        intro a b
        apply ByteArray.ext
        simp [ByteArray.data_extract]
      rcases hlo with ⟨rfl, rfl⟩ | ⟨ly, lk, li, rfl, rfl, hly⟩ <;> rcases hhi with ⟨rfl, rfl⟩ | ⟨hy, hk, hi2, rfl, rfl, hhy⟩
      · simp only at hv; cases hv
        refine ⟨.string ⟨s.toArray⟩, ?_, .d (.str _)⟩
        simp [Instr.sliceAt, Instr.slice, run_underlying hu, Instr.sliceBounds, hext, ba_size]
      · simp only at hv; cases hv
        refine ⟨.string ⟨(s.take hi2.toNat).toArray⟩, ?_, .d (.str _)⟩
        simp [Instr.sliceAt, Instr.slice, run_underlying hu, Instr.sliceBounds, hext, ba_size, hhy, run_bound_in _ _ _ _ hC]
      · simp only at hv; cases hv
        refine ⟨.string ⟨(s.drop li.toNat).toArray⟩, ?_, .d (.str _)⟩
        have htk : List.take (s.length - li.toNat) (List.drop li.toNat s) = List.drop li.toNat s := List.take_of_length_le (by simp)
        simp [Instr.sliceAt, Instr.slice, run_underlying hu, Instr.sliceBounds, hext, ba_size, hly, run_bound_in _ _ _ _ hC, htk]
      · simp only at hv; cases hv
        refine ⟨.string ⟨(cutL s li hi2).toArray⟩, ?_, .d (.str _)⟩
        have h1 : 0 ≤ hi2 ∧ hi2 ≤ (s.length : Int) := by omega
        have h2 : 0 ≤ li ∧ li ≤ (hi2.toNat : Int) := by omega
        simp [Instr.sliceAt, Instr.slice, run_underlying hu, Instr.sliceBounds, hext, ba_size, hly, hhy, run_bound_in _ _ _ _ h1, run_bound_in _ _ _ _ h2, cutL]
    · cases hv
  · split at hv
    · rename_i sz es hes
      split at hv
      · rename_i hse
        obtain ⟨et, ie, h1, h2, h3⟩ := sliceElem_ok hT hse
        have hx' := asEs_ok hx hes
        obtain ⟨a, cap, hvv, hn, hp⟩ := hx'.slice_inv
        have hcap : es.length ≤ cap := by
          cases a with
          | none => have := hn rfl; rw [this.1, this.2]; simp
          | some p => exact (hp p rfl).2.1
        rw [hvv] at hx' ⊢
        rcases hlo with ⟨rfl, rfl⟩ | ⟨ly, lk, li, rfl, rfl, hly⟩ <;> rcases hhi with ⟨rfl, rfl⟩ | ⟨hy, hk, hi2, rfl, rfl, hhy⟩
        · simp only at hv; cases hv
          refine ⟨_, ?_, .d (by have := hx'.cut (l := 0) (r := es.length) (by omega) (Nat.le_refl _); simpa using this)⟩
          simp [Instr.sliceAt, Instr.slice, run_underlying h1, Instr.sliceBounds, h2.run_size, h3]
        · simp only at hv; cases hv
          have hb : 0 ≤ hi2 ∧ hi2 ≤ (cap : Int) := by omega
          refine ⟨_, ?_, .d (by have := hx'.cut (l := 0) (r := hi2.toNat) (by omega) (by omega); simpa using this)⟩
          simp [Instr.sliceAt, Instr.slice, run_underlying h1, Instr.sliceBounds, h2.run_size, h3, hhy, run_bound_in _ _ _ _ hb]
        · simp only at hv; cases hv
          refine ⟨_, ?_, .d (by have := hx'.cut (l := li.toNat) (r := es.length) (by omega) (by omega); rw [List.take_of_length_le (by simp)] at this; exact this)⟩
          simp [Instr.sliceAt, Instr.slice, run_underlying h1, Instr.sliceBounds, h2.run_size, h3, hly, run_bound_in _ _ _ _ hC]
        · simp only at hv; cases hv
          have hb : 0 ≤ hi2 ∧ hi2 ≤ (cap : Int) := by omega
          have hb2 : 0 ≤ li ∧ li ≤ (hi2.toNat : Int) := by omega
          refine ⟨_, ?_, .d (hx'.cut (l := li.toNat) (r := hi2.toNat) (by omega) (by omega))⟩
          simp [Instr.sliceAt, Instr.slice, run_underlying h1, Instr.sliceBounds, h2.run_size, h3, hly, hhy, run_bound_in _ _ _ _ hb, run_bound_in _ _ _ _ hb2]
      · cases hv
    · cases hv

def lenA (T : Tr) (t : Nat) (x : AV) : Option AV := match x with
  | .d (.str s) => match isStrT T t with
    | true => some (.d (.int .i64 (s.length : Int)))
    | false => none
  | .nils => match isSliceT T t with
    | true => some (.d (.int .i64 0))
    | false => none
  | .bm _ n => match isSliceT T t with
    | true => some (.d (.int .i64 (n : Int)))
    | false => none
  | .row _ _ n _ => match isSliceT T t with
    | true => some (.d (.int .i64 (n : Int)))
    | false => none
  | x => match asEs x with
    | some (_, es) => match isSliceT T t with
      | true => some (.d (.int .i64 (es.length : Int)))
      | false => none
    | none => none

theorem lenA_ok (hT : TOk P T) {t : Nat} {x : Operand} (ho : o.op = .call { callee := .builtin .len, args := #[x], argTypes := #[t] }) (h : lenA T t (ρ x) = some v) : OpP P o ρ v := by
  intro G e w hi hr
  have hx : RepA G (ρ x) (e x) := hr x (by simp [ho, Op.operands, Call.operands])
  unfold execOp
  simp only [ho, Sem.run_bind, resolve, invoke, builtin]
  unfold lenA at h
  split at h
  · rename_i s hxe
    rw [hxe] at hx
    split at h
    · rename_i hs; cases h
      have hu := und_of_str hT hs
      refine ⟨.int .i64 (s.length : Int), ?_, .d (.int _ _)⟩
      simp [Builtin.len_, hx.str_inv, run_underlying hu, goInt, ba_size]
    · cases h
  · rename_i hxe
    rw [hxe] at hx
    split at h
    · rename_i hs; cases h
      obtain ⟨et, hu⟩ := und_of_slice hT hs
      refine ⟨.int .i64 0, ?_, .d (.int _ _)⟩
      generalize hv : e x = u at hx
      cases hx
      simp [Builtin.len_, hv, run_underlying hu, goInt]
    · cases h
  · rename_i n hxe
    rw [hxe] at hx
    split at h
    · rename_i hs; cases h
      obtain ⟨et, hu⟩ := und_of_slice hT hs
      refine ⟨.int .i64 (n : Int), ?_, .d (.int _ _)⟩
      generalize hv : e x = u at hx
      cases hx
      simp [Builtin.len_, hv, run_underlying hu, goInt]
    · cases h
  · rename_i n _ hxe
    rw [hxe] at hx
    split at h
    · rename_i hs; cases h
      obtain ⟨et, hu⟩ := und_of_slice hT hs
      refine ⟨.int .i64 (n : Int), ?_, .d (.int _ _)⟩
      generalize hv : e x = u at hx
      cases hx
      simp [Builtin.len_, hv, run_underlying hu, goInt]
    · cases h
  · split at h
    · rename_i sz es hes
      split at h
      · rename_i hs; cases h
        obtain ⟨et, hu⟩ := und_of_slice hT hs
        obtain ⟨a, cap, hv, _⟩ := (asEs_ok hx hes).slice_inv
        refine ⟨.int .i64 (es.length : Int), ?_, .d (.int _ _)⟩
        simp [Builtin.len_, hv, run_underlying hu, goInt]
      · cases h
    · cases h

/-- A load of immutable cells. -/
def loadI (T : Tr) (t : Nat) (cs : List Dat) : Option AV := match T.find t with
  | some i => match i.agg with
    | true => match Nat.ble i.size cs.length with
      | true => some (.agg ((cs.take i.size).map .d))
      | false => none
    | false => match cs[0]? with
      | some d => some (.d d)
      | none => none
  | none => none

theorem loadI_ok (hT : TOk P T) {t : Nat} {x : Operand} {cs : List Dat} (ho : o.op = .load t x) (hx : ρ x = .iptr cs) (h : loadI T t cs = some v) : OpP P o ρ v := by
  intro G e w hi hr
  have hx' : RepA G (ρ x) (e x) := hr x (by simp [ho, Op.operands])
  rw [hx] at hx'
  generalize hu : e x = u at hx'
  cases hx' with
  | iptr a vs h1 h2 h3 =>
  unfold execOp
  simp only [ho, Sem.run_bind, Instr.loadAt, hu, Instr.sureAddr]
  unfold loadI at h
  split at h
  · rename_i i hf
    have hti := hT.at hf
    split at h
    · rename_i hagg
      split at h
      · rename_i hble
        have hle := Nat.le_of_ble_eq_true hble
        cases h
        have hl : (loadCells a i.size).run P w = .ok ((List.range i.size).map vs).toArray w := by
          refine run_loadCells (P := P) w a i.size vs (fun j hj => ?_)
          have : cs[j]? = some cs[j] := by simp [show j < cs.length by omega]
          exact hi _ _ (h2 j _ this)
        refine ⟨.agg ((List.range i.size).map vs).toArray, ?_, .agg _ (by simp; omega) (fun j c y hc hy => ?_) (fun j y hy => ?_)⟩
        · simp [loadVar, hti.run_agg, hagg, hti.run_size, hl]
        · simp only [List.getElem?_map, Option.map_eq_some_iff, List.getElem?_take] at hc
          obtain ⟨d, hd, rfl⟩ := hc
          split at hd
          · rename_i hj
            simp [hj] at hy
            subst hy
            exact .d (h3 j d hd)
          · cases hd
        · by_cases hj : j < i.size
          · simp [hj] at hy
            subst hy
            have : cs[j]? = some cs[j] := by simp [show j < cs.length by omega]
            exact (h3 j _ this).one
          · simp [hj] at hy
      · cases h
    · rename_i hagg
      split at h
      · rename_i d hd
        cases h
        have hc := hi _ _ (h2 0 d hd)
        refine ⟨vs 0, ?_, .d (h3 0 d hd)⟩
        have ha0 : a.add 0 = a := by simp [Addr.add]
        rw [ha0] at hc
        simp [loadVar, hti.run_agg, hagg, hc]
      · cases h
  · cases h

def extractA (n : Nat) (x : AV) : Option AV := match x with
  | .tup vs => vs[n]?
  | _ => none

theorem extractA_ok {x : Operand} {n : Nat} (ho : o.op = .extract x n) (h : extractA n (ρ x) = some v) : OpP P o ρ v := by
  intro G e w hi hr
  have hx : RepA G (ρ x) (e x) := hr x (by simp [ho, Op.operands])
  unfold execOp
  simp only [ho, Sem.run_bind]
  unfold extractA at h
  split at h
  · rename_i vs hxe
    rw [hxe] at hx
    generalize hu : e x = u at hx
    cases hx with
    | tup us h1 h2 =>
    have hlt : n < us.size := by rw [h1]; exact (List.getElem?_eq_some_iff.1 h).1
    have hg : us[n]? = some us[n] := by simp [hlt]
    exact ⟨us[n], by simp [Instr.extract, hg], h2 n v _ h hg⟩
  · cases h

/-! conversions -/

def numOf : List Dat → Int
  | [.int _ n] => n
  | _ => 0
def bytesOf (es : List (List Dat)) : List UInt8 := es.map fun e => UInt8.ofNat (numOf e).toNat
def byteCells (es : List (List Dat)) : Prop := ∀ e, e ∈ es → ∃ n : Int, e = [.int .u8 n]

def isByteSlice (T : Tr) (t : Nat) : Bool := match T.find t with
  | some i => match i.kind with
    | .slice e => match T.find e with
      | some ie => match ie.kind with
        | .int .u8 => true
        | _ => false
      | none => false
    | _ => false
  | none => false

theorem isByteSlice_ok (hT : TOk P T) {t : Nat} (h : isByteSlice T t = true) : ∃ e, P.underlying t = some (.slice e) ∧ P.underlying e = some (.int .u8) := by
  unfold isByteSlice at h
  split at h
  · rename_i i hi
    split at h
    · rename_i e hk
      split at h
      · rename_i ie hie
        split at h
        · rename_i hke
          obtain ⟨d, hd, hkd⟩ := (hT.at hi).und
          rw [hk] at hkd
          cases d <;> simp [kindOk] at hkd
          subst hkd
          obtain ⟨d2, hd2, hkd2⟩ := (hT.at hie).und
          rw [hke] at hkd2
          cases d2 <;> simp [kindOk] at hkd2
          rw [← kEq_eq hkd2] at hd2
          exact ⟨e, hd, hd2⟩
        · cases h
      · cases h
    · cases h
  · cases h

def convA (T : Tr) (s t : Nat) (x : AV) : Option (AV × Prop) := match x with
  | .d (.int _ n) => match intKindT T t with
    | some k => match intKindT T s with
      | some _ => some (.d (.int k (k.wrap n)), True)
      | none => none
    | none => none
  | .d (.str b) => match isStrT T s && isStrT T t with
    | true => some (.d (.str b), True)
    | false => none
  | x => match asEs x with
    | some (_, es) => match isByteSlice T s && isStrT T t with
      | true => some (.d (.str (bytesOf es)), byteCells es)
      | false => none
    | none => none

theorem foldl_push (ns : List Int) : ∀ (s : ByteArray), ns.foldl (fun r n => r.push (UInt8.ofNat n.toNat)) s = ⟨(s.data.toList ++ ns.map fun n => UInt8.ofNat n.toNat).toArray⟩ := by
  induction ns with
  | nil => intro s; obtain ⟨⟨l⟩⟩ := s; simp
  | cons n ns ih =>
    intro s
    obtain ⟨⟨l⟩⟩ := s
    simp only [List.foldl_cons, ih, List.map_cons]
    simp [ByteArray.push]

theorem convA_ok (hT : TOk P T) {s t : Nat} {x : Operand} (ho : o.op = .convert s t x) {C : Prop} (h : convA T s t (ρ x) = some (v, C)) (hC : C) : OpP P o ρ v := by
  intro G e w hi hr
  have hx : RepA G (ρ x) (e x) := hr x (by simp [ho, Op.operands])
  unfold execOp
  simp only [ho, Sem.run_bind]
  unfold convA at h
  split at h
  · rename_i k n hxe
    rw [hxe] at hx
    split at h
    · rename_i k' hk
      split at h
      · rename_i k2 hk2
        cases h
        refine ⟨.int k' (k'.wrap n), ?_, .d (.int _ _)⟩
        simp [Go.convert, run_underlying (und_of_int hT hk), run_underlying (und_of_int hT hk2), hx.int_inv, Conv.intToInt]
      · cases h
    · cases h
  · rename_i b hxe
    rw [hxe] at hx
    split at h
    · rename_i hs
      simp only [Bool.and_eq_true] at hs
      cases h
      refine ⟨.string ⟨b.toArray⟩, ?_, .d (.str _)⟩
      simp [Go.convert, run_underlying (und_of_str hT hs.1), run_underlying (und_of_str hT hs.2), hx.str_inv]
    · cases h
  · split at h
    · rename_i sz es hes
      split at h
      · rename_i hs
        simp only [Bool.and_eq_true] at hs
        cases h
        obtain ⟨et, h1, h2⟩ := isByteSlice_ok hT hs.1
        have h3 := und_of_str hT hs.2
        obtain ⟨a, cap, hv, hn, hp⟩ := (asEs_ok hx hes).slice_inv
        rw [hv]
        cases a with
        | none =>
          obtain ⟨rfl, rfl⟩ := hn rfl
          refine ⟨.string .empty, ?_, .d (.str [])⟩
          simp [Go.convert, run_underlying h1, run_underlying h2, run_underlying h3, Conv.bytesToString]
        | some p =>
          obtain ⟨p1, p2, p3, vs, p4, p5⟩ := hp p rfl
          have hb : ∀ i : Nat, (hlt : i < es.length) → ∃ n : Int, es[i]? = some [Dat.int .u8 n] ∧ vs (i * sz) = .int .u8 n ∧ w.cell? (p.add (i * sz)) = some (.int .u8 n) := by
            intro i hlt
            have he : es[i]? = some es[i] := by simp [hlt]
            obtain ⟨n, hn'⟩ := hC _ (List.mem_of_getElem? he)
            rw [hn'] at he
            have hr' := p5 i _ 0 _ he rfl
            have hm := hi _ _ (p4 i _ 0 _ he rfl)
            simp only [Nat.add_zero] at hr' hm
            have : vs (i * sz) = .int .u8 n := by generalize vs (i * sz) = q at hr'; cases hr'; rfl
            exact ⟨n, he, this, by rw [this] at hm; exact hm⟩
          have hsz : es ≠ [] → sz = 1 := by
            intro hne
            obtain ⟨e0, he0⟩ := List.exists_mem_of_ne_nil _ hne
            obtain ⟨n, hn'⟩ := hC _ he0
            have := p3 _ he0
            rw [hn'] at this
            simpa using this.symm
          let ns : List Int := es.map numOf
          have hnl : ns.length = es.length := by simp [ns]
          have hni : ∀ (i : Nat) (n : Int), es[i]? = some [Dat.int .u8 n] → ns[i]? = some n := by
            intro i n he; simp [ns, he, numOf]
          have hl : (loadCells p es.length).run P w = .ok (ns.map (Value.int .u8)).toArray w := by
            have := run_loadCells (P := P) w p es.length (fun j => Value.int .u8 (ns.getD j 0)) (fun j hj => by
              obtain ⟨n, g1, g2, g3⟩ := hb j hj
              have hz := hsz (by intro h0; rw [h0] at hj; simp at hj)
              rw [hz, Nat.mul_one] at g3
              rw [g3]; simp [List.getD, hni j n g1])
            rw [this]
            congr 2
            apply List.ext_getElem?
            intro j
            by_cases hj : j < es.length
            · have hj' : j < ns.length := by omega
              simp [hj, hj', List.getD]
            · have hj' : ¬ j < ns.length := by omega
              simp [hj, hj', List.getElem?_eq_none (Nat.le_of_not_lt hj')]
          refine ⟨_, ?_, .d (.str _)⟩
          simp [Go.convert, run_underlying h1, run_underlying h2, run_underlying h3, run_bytesToString w p es.length cap ns hl, foldl_push, bytesOf, ns]
      · cases h
    · cases h
end ops
end Tdoc
