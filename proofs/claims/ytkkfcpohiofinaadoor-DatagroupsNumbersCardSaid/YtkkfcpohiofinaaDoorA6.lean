/- Literals of structs and slices, and append. No program is named here. -/
import Derived.Test.YtkkfcpohiofinaaDoorA5
set_option linter.unusedSimpArgs false
set_option linter.unusedVariables false
namespace Tdoc
open Go

def CellsRep (G : Gh) (cells : List AV) (vs : Array Value) : Prop :=
  vs.size = cells.length ∧ ∀ (j : Nat) (c : AV) (u : Value), cells[j]? = some c → vs[j]? = some u → RepA G c u ∧ oneC u = true

theorem fold_set {G : Gh} (off : Nat) : ∀ (new : List AV) (us : List Value) (k : Nat) (cells : List AV) (vs : Array Value), CellsRep G cells vs → us.length = new.length →
    (∀ (j : Nat) (c : AV) (u : Value), new[j]? = some c → us[j]? = some u → RepA G c u ∧ oneC u = true) →
    CellsRep G (setRun cells (off + k) new) ((us.zipIdx k).foldl (fun cs x => cs.setIfInBounds (off + x.2) x.1) vs)
  | [], us, k, cells, vs, hr, hl, hv => by
    have : us = [] := by simpa using hl
    subst this; simpa [setRun] using hr
  | c :: new, [], k, cells, vs, hr, hl, hv => by simp at hl
  | c :: new, u :: us, k, cells, vs, hr, hl, hv => by
    simp only [List.zipIdx_cons, List.foldl_cons, setRun]
    have h0 := hv 0 c u (by simp) (by simp)
    have := fold_set off new us (k + 1) (cells.set (off + k) c) (vs.setIfInBounds (off + k) u) ⟨by simp [hr.1], fun j d y hd hy => by
      rw [List.getElem?_set] at hd
      rw [Array.getElem?_setIfInBounds] at hy
      split at hd
      · rename_i e; subst e
        split at hd
        · cases hd
          simp only [if_true] at hy
          split at hy
          · cases hy; exact h0
          · cases hy
        · cases hd
      · rename_i e
        rw [if_neg e] at hy
        exact hr.2 j d y hd hy⟩ (by simpa using hl) (fun j d y hd hy => hv (j + 1) d y (by simpa using hd) (by simpa using hy))
    simpa [Nat.add_assoc] using this

def fillA (place : Nat → Option (Nat × Nat)) (cells : List AV) : List (Nat × AV) → Option (List AV)
  | [] => some cells
  | (i, v) :: rest => match place i with
    | none => none
    | some (off, size) => match cellsA v with
      | none => none
      | some cs => match Nat.beq cs.length size && Nat.ble (off + size) cells.length with
        | true => fillA place (setRun cells off cs) rest
        | false => none

theorem fillA_ok {G : Gh} {place : Nat → Option (Nat × Nat)} {ρ : Operand → AV} {e : Operand → Value} : ∀ (parts : List (Nat × Operand)) (cells cells' : List AV) (vs : Array Value), CellsRep G cells vs →
    (∀ x, x ∈ parts → RepA G (ρ x.2) (e x.2)) → fillA place cells (parts.map fun x => (x.1, ρ x.2)) = some cells' →
    ∃ vs', Instr.fill place vs (parts.map fun x => (x.1, e x.2)) = some vs' ∧ CellsRep G cells' vs'
  | [], cells, cells', vs, hr, hp, h => by simp [fillA] at h; subst h; exact ⟨vs, by simp [Instr.fill], hr⟩
  | (i, x) :: parts, cells, cells', vs, hr, hp, h => by
    simp only [List.map_cons, fillA] at h
    split at h
    · cases h
    · rename_i off size hpl
      split at h
      · cases h
      · rename_i cs hcs
        split at h
        · rename_i hb
          simp only [Bool.and_eq_true] at hb
          have hlen := Nat.eq_of_beq_eq_true hb.1
          have hle := Nat.le_of_ble_eq_true hb.2
          obtain ⟨c1, c2⟩ := cellsA_ok (hp (i, x) (by simp)) hcs
          have hnew := fold_set (G := G) off cs (e x).cells.toList 0 cells vs hr (by simp [c1]) (fun j d u hd hu => c2 j d u hd (by simpa using hu))
          obtain ⟨vs', h1, h2⟩ := fillA_ok parts _ _ _ hnew (fun y hy => hp y (by simp [hy])) h
          refine ⟨vs', ?_, h2⟩
          simp only [List.map_cons, Instr.fill, hpl]
          have hn : ¬ ((e x).cells.size ≠ size ∨ off + (e x).cells.size > vs.size) := by
            rw [c1, hlen, hr.1]; omega
          have hb2 : ((decide ((e x).cells.size ≠ size) || decide (off + (e x).cells.size > vs.size)) = true) ↔ ((e x).cells.size ≠ size ∨ off + (e x).cells.size > vs.size) := by simp
          rw [if_neg (by rw [hb2]; exact hn)]
          rw [← Array.foldl_toList, Array.toList_zipIdx]
          simpa using h1
        · cases h

def buildA (T : Tr) (t : Nat) (parts : List (Nat × AV)) : Option AV := match T.find t with
  | some i => match i.kind with
    | .struct fs => match fillA (fun k => (fs[k]?).map fun (x : Nat × Nat × Bool) => (x.1, x.2.1)) i.zero parts with
      | some cs => some (.agg cs)
      | none => none
    | .array _ el => match T.find el with
      | some ie => match fillA (fun k => some (k * ie.size, ie.size)) i.zero parts with
        | some cs => some (.agg cs)
        | none => none
      | none => none
    | _ => none
  | none => none

section
variable {P : Program} {E : Env} {T : Tr} {o : Oper} {ρ : Operand → AV} {h h' : List AObj} {v : AV}

theorem places_ok : ∀ {fields : List Field} {fs : List (Nat × Nat × Bool)}, fieldsOf P fields fs = true →
    fields.mapM (fun f => (P.info? f.type).map fun i => (f.offset, i.size)) = some (fs.map fun (x : Nat × Nat × Bool) => (x.1, x.2.1))
  | [], [], _ => by simp
  | f :: r, (off, s, g) :: l, h => by
    simp only [fieldsOf, Bool.and_eq_true] at h
    obtain ⟨⟨⟨h1, h2⟩, h3⟩, h4⟩ := h
    have ih := places_ok h4
    have h1 := Nat.eq_of_beq_eq_true h1
    cases hi : P.info? f.type with
    | none => simp [hi] at h2
    | some i =>
      simp only [hi] at h2
      have h2 := Nat.eq_of_beq_eq_true h2
      simp [List.mapM_cons, hi, ih, h1, h2]
  | [], _ :: _, h => by simp [fieldsOf] at h
  | _ :: _, [], h => by simp [fieldsOf] at h

theorem build_ok (hT : TOk P T) {t : Nat} {parts : Array (Nat × Operand)} (ho : o.op = .build t parts) (h : buildA T t (parts.toList.map fun x => (x.1, ρ x.2)) = some v) : OpP P o ρ v := by
  intro G e w hi hr
  have hp : ∀ x, x ∈ parts.toList → RepA G (ρ x.2) (e x.2) := fun x hx => hr x.2 (by
    simp only [ho, Op.operands]
    exact List.mem_map_of_mem hx)
  unfold buildA at h
  split at h
  · rename_i i hf
    have hti := hT.at hf
    obtain ⟨info, hinfo, hsz, hby, z, hz, hzc⟩ := hti.info
    obtain ⟨d, hd, hkd⟩ := hti.und
    obtain ⟨zl, zr⟩ := zrepL_ok hzc
    have hrep : CellsRep G i.zero z.cells := ⟨by simp [zl], fun j c u hc hu => zr G j c u hc (by simpa using hu)⟩
    split at h
    · rename_i fs hk
      rw [hk] at hkd
      cases d <;> simp [kindOk] at hkd
      rename_i fields
      split at h
      · rename_i cs hfill
        cases h
        obtain ⟨vs', h1, h2⟩ := fillA_ok (e := e) parts.toList _ _ _ hrep hp hfill
        refine ⟨.agg vs', ?_, .agg vs' h2.1 (fun j x u hx hu => (h2.2 j x u hx hu).1) (fun j u hu => ?_)⟩
        · unfold execOp
          simp only [ho, Sem.run_bind]
          rw [run_build w t (parts.map fun x => (x.1, e x.2)) vs' ?_]
          · rfl
          · simp only [Program.built, hinfo, hd, hz, places_ok hkd]
            have : (fun k : Nat => (List.map (fun x : Nat × Nat × Bool => (x.1, x.2.1)) fs).toArray[k]?) = fun k => (fs[k]?).map fun (x : Nat × Nat × Bool) => (x.1, x.2.1) := by funext k; simp
            simp only [this, Array.toList_map]
            exact h1
        · have hj : j < cs.length := by rw [← h2.1]; exact (Array.getElem?_eq_some_iff.1 hu).1
          exact (h2.2 j cs[j] u (by simp [hj]) hu).2
      · cases h
    · rename_i n el hk
      rw [hk] at hkd
      cases d <;> simp [kindOk] at hkd
      obtain ⟨rfl, rfl⟩ := hkd
      split at h
      · rename_i ie hfe
        obtain ⟨einfo, heinfo, hesz, _⟩ := (hT.at hfe).info
        split at h
        · rename_i cs hfill
          cases h
          obtain ⟨vs', h1, h2⟩ := fillA_ok (e := e) parts.toList _ _ _ hrep hp hfill
          refine ⟨.agg vs', ?_, .agg vs' h2.1 (fun j x u hx hu => (h2.2 j x u hx hu).1) (fun j u hu => ?_)⟩
          · unfold execOp
            simp only [ho, Sem.run_bind]
            rw [run_build w t (parts.map fun x => (x.1, e x.2)) vs' ?_]
            · rfl
            · simp only [Program.built, hinfo, hd, hz, heinfo, hesz, Array.toList_map]
              exact h1
          · have hj : j < cs.length := by rw [← h2.1]; exact (Array.getElem?_eq_some_iff.1 hu).1
            exact (h2.2 j cs[j] u (by simp [hj]) hu).2
        · cases h
      · cases h
    · cases h
  · cases h

/-- The elements of a literal of a slice, in order and without gaps. -/
def mapDat : List AV → Option (List Dat)
  | [] => some []
  | x :: l => match toDat x with
    | some d => match mapDat l with
      | some r => some (d :: r)
      | none => none
    | none => none

theorem mapDat_at : ∀ {cs : List AV} {ds : List Dat}, mapDat cs = some ds → ds.length = cs.length ∧ ∀ (j : Nat) (d : Dat), ds[j]? = some d → ∃ c, cs[j]? = some c ∧ toDat c = some d
  | [], ds, h => by simp [mapDat] at h; subst h; exact ⟨rfl, fun j d h => by simp at h⟩
  | x :: l, ds, h => by
    unfold mapDat at h
    split at h
    · rename_i d hd
      split at h
      · rename_i r hr
        cases h
        obtain ⟨h1, h2⟩ := mapDat_at hr
        refine ⟨by simp [h1], fun j y hy => ?_⟩
        cases j with
        | zero => simp at hy; subst hy; exact ⟨x, by simp, hd⟩
        | succ j => simp at hy; obtain ⟨c, hc, hc2⟩ := h2 j y hy; exact ⟨c, by simpa using hc, hc2⟩
      · cases h
    · cases h

def denseA (sz : Nat) : Nat → List (Nat × AV) → Option (List (List Dat))
  | _, [] => some []
  | k, (i, x) :: r => match Nat.beq i k with
    | true => match cellsA x with
      | some cs => match Nat.beq cs.length sz with
        | true => match mapDat cs with
          | some ds => match denseA sz (k + 1) r with
            | some l => some (ds :: l)
            | none => none
          | none => none
        | false => none
      | none => none
    | false => none

theorem denseA_len {sz : Nat} : ∀ {parts : List (Nat × AV)} {k : Nat} {es : List (List Dat)}, denseA sz k parts = some es → es.length = parts.length ∧ ∀ e, e ∈ es → e.length = sz
  | [], k, es, h => by simp [denseA] at h; subst h; exact ⟨rfl, fun e he => by cases he⟩
  | (i, x) :: r, k, es, h => by
    unfold denseA at h
    split at h
    · split at h
      · rename_i cs hcs
        split at h
        · rename_i hb
          split at h
          · rename_i ds hds
            split at h
            · rename_i l hl
              cases h
              obtain ⟨h1, h2⟩ := denseA_len hl
              refine ⟨by simp [h1], fun e he => ?_⟩
              cases he with
              | head => rw [(mapDat_at hds).1]; exact Nat.eq_of_beq_eq_true hb
              | tail _ he => exact h2 e he
            · cases h
          · cases h
        · cases h
      · cases h
    · cases h

theorem setRun_at : ∀ (new cs : List AV) (off j : Nat), off + new.length ≤ cs.length → (setRun cs off new)[j]? = if off ≤ j ∧ j < off + new.length then new[j - off]? else cs[j]?
  | [], cs, off, j, _ => by simp [setRun]; intro h1 h2; omega
  | c :: r, cs, off, j, h => by
    simp only [List.length_cons] at h
    rw [setRun, setRun_at r _ _ j (by simp; omega)]
    simp only [List.length_cons, List.getElem?_set]
    by_cases h1 : off + 1 ≤ j ∧ j < off + 1 + r.length
    · rw [if_pos h1, if_pos (by omega)]
      rw [show j - off = (j - (off + 1)) + 1 by omega]; simp
    · rw [if_neg h1]
      by_cases h2 : off = j
      · subst h2
        rw [if_pos rfl, if_pos (by omega), if_pos (by omega)]; simp
      · rw [if_neg h2, if_neg (by omega)]

/-- What a dense literal fills, cell by cell. -/
theorem fill_dense {sz : Nat} : ∀ (parts : List (Nat × AV)) (k : Nat) (cells : List AV) (es : List (List Dat)), denseA sz k parts = some es → (k + parts.length) * sz ≤ cells.length →
    ∃ cells', fillA (fun i => some (i * sz, sz)) cells parts = some cells' ∧ (∀ j, j < k * sz → cells'[j]? = cells[j]?) ∧
      ∀ (i : Nat) (e : List Dat) (j : Nat) (d : Dat), es[i]? = some e → e[j]? = some d → ∃ c, cells'[(k + i) * sz + j]? = some c ∧ toDat c = some d
  | [], k, cells, es, h, hl => by simp [denseA] at h; subst h; exact ⟨cells, rfl, fun _ _ => rfl, fun i e j d h => by simp at h⟩
  | (i0, x) :: r, k, cells, es, h, hl => by
    simp only [List.length_cons] at hl
    unfold denseA at h
    split at h
    · rename_i hik
      obtain rfl := Nat.eq_of_beq_eq_true hik
      split at h
      · rename_i cs hcs
        split at h
        · rename_i hb
          have hcl := Nat.eq_of_beq_eq_true hb
          split at h
          · rename_i ds hds
            split at h
            · rename_i l hl2
              cases h
              have e1 : (i0 + 1) * sz = i0 * sz + sz := by rw [Nat.add_mul, Nat.one_mul]
              have e2 : (i0 + (r.length + 1)) * sz = (i0 + 1 + r.length) * sz := by congr 1; omega
              have e3 : (i0 + 1) * sz ≤ (i0 + 1 + r.length) * sz := Nat.mul_le_mul_right _ (by omega)
              have hfit : i0 * sz + cs.length ≤ cells.length := by omega
              obtain ⟨cells', h1, h2, h3⟩ := fill_dense r (i0 + 1) (setRun cells (i0 * sz) cs) l hl2 (by rw [setRun_length]; omega)
              refine ⟨cells', ?_, fun j hj => ?_, fun i e j d he hd => ?_⟩
              · simp only [fillA, hcs]
                have : (Nat.beq cs.length sz && Nat.ble (i0 * sz + sz) cells.length) = true := by
                  simp only [Bool.and_eq_true]; exact ⟨hb, by rw [Nat.ble_eq]; omega⟩
                rw [this]; exact h1
              · rw [h2 j (by omega), setRun_at _ _ _ _ hfit, if_neg (by omega)]
              · cases i with
                | zero =>
                  simp only [List.getElem?_cons_zero, Option.some.injEq] at he
                  subst he
                  obtain ⟨m1, m2⟩ := mapDat_at hds
                  have hj : j < sz := by have := (List.getElem?_eq_some_iff.1 hd).1; omega
                  obtain ⟨c, hc, hcd⟩ := m2 j d hd
                  refine ⟨c, ?_, hcd⟩
                  rw [Nat.add_zero, h2 _ (by omega), setRun_at _ _ _ _ hfit, if_pos (by omega)]
                  rw [show i0 * sz + j - i0 * sz = j by omega]; exact hc
                | succ i =>
                  simp only [List.getElem?_cons_succ] at he
                  obtain ⟨c, hc, hcd⟩ := h3 i e j d he hd
                  exact ⟨c, by rw [show i0 + (i + 1) = i0 + 1 + i by omega]; exact hc, hcd⟩
            · cases h
          · cases h
        · cases h
      · cases h
    · cases h

/-- A literal of a slice: an immutable one. -/
def buildSlA (T : Tr) (t len : Nat) (parts : List (Nat × AV)) : Option AV := match T.find t with
  | some i => match i.kind with
    | .slice el => match T.find el with
      | some ie => match denseA ie.size 0 parts with
        | some es => match Nat.beq es.length len && Nat.ble (len * ie.size) 16777216 && Nat.beq ie.zero.length ie.size with
          | true => some (.sl ie.size es .full)
          | false => none
        | none => none
      | none => none
    | _ => none
  | none => none

theorem newImm_rep {G : Gh} {b n sz : Nat} {cs : Array Value} {es : List (List Dat)} (he : ∀ e, e ∈ es → e.length = sz) (hn : es.length * sz ≤ n) (cap : Nat) (hcap : es.length ≤ cap)
    (hc : ∀ (i : Nat) (e : List Dat) (j : Nat) (d : Dat), es[i]? = some e → e[j]? = some d → ∃ u, cs[i * sz + j]? = some u ∧ RepD (immExt G b n cs).imm d u) :
    RepD (immExt G b n cs).imm (.sl sz es) (.slice (some ⟨b, 0, none⟩) es.length cap) := by
  refine .sl sz es _ cap (fun k => cs.getD k undef) rfl hcap he (fun i e j d h1 h2 => ?_) (fun i e j d h1 h2 => ?_)
  · obtain ⟨u, hu, _⟩ := hc i e j d h1 h2
    have hj : j < sz := by rw [← he e (List.mem_of_getElem? h1)]; exact (List.getElem?_eq_some_iff.1 h2).1
    have hi : i < es.length := (List.getElem?_eq_some_iff.1 h1).1
    have hlt : i * sz + j < n := by
      have : (i + 1) * sz ≤ es.length * sz := Nat.mul_le_mul_right _ hi
      rw [Nat.add_mul, Nat.one_mul] at this; omega
    rw [add_mk]
    show (if b = b then (if (none : Option Nat) = none ∧ 0 + (i * sz + j) < n then cs[0 + (i * sz + j)]? else none) else _) = _
    simp [hlt, hu]
  · obtain ⟨u, hu, hr⟩ := hc i e j d h1 h2
    simp only [Array.getD_eq_getD_getElem?, hu, Option.getD_some]; exact hr

theorem buildSl_run (hT : TOk P T) {t len : Nat} {parts : Array (Nat × Operand)} (ho : o.op = .buildSlice t len parts) (hv : buildSlA T t len (parts.toList.map fun x => (x.1, ρ x.2)) = some v)
    (G : Gh) (e : Operand → Value) (w : World) (hw : WRel E G h w) (hr : ∀ x, x ∈ o.op.operands.toList → RepA G (ρ x) (e x)) :
    ∃ el vs' G', P.underlying t = some (.slice el) ∧ G'.own = G.own ∧ (execOp e o).run P w = .ok (.value (.slice (some ⟨w.heap.size, 0, none⟩) len len)) (w.alloc (.cells vs' el)) ∧ G.le G' ∧ WRel E G' h (w.alloc (.cells vs' el)) ∧ RepA G' v (.slice (some ⟨w.heap.size, 0, none⟩) len len) := by
    have hp : ∀ x, x ∈ parts.toList → RepA G (ρ x.2) (e x.2) := fun x hx => hr x.2 (by
      simp only [ho, Op.operands]
      exact List.mem_map_of_mem hx)
    unfold buildSlA at hv
    split at hv
    · rename_i i hf
      split at hv
      · rename_i el hk
        obtain ⟨d, hd, hkd⟩ := (hT.at hf).und
        rw [hk] at hkd
        cases d <;> simp [kindOk] at hkd
        subst hkd
        split at hv
        · rename_i ie hfe
          obtain ⟨einfo, heinfo, hesz, heb, z, hz, hzc⟩ := (hT.at hfe).info
          split at hv
          · rename_i es hes
            split at hv
            · rename_i hb
              simp only [Bool.and_eq_true] at hb
              have hlen := Nat.eq_of_beq_eq_true hb.1.1
              have hsmall := Nat.le_of_ble_eq_true hb.1.2
              have hzlen := Nat.eq_of_beq_eq_true hb.2
              cases hv
              obtain ⟨zl, zr⟩ := zrepL_ok hzc
              simp only [Array.length_toList] at zl
              obtain ⟨d1, d2⟩ := denseA_len hes
              have hplen : parts.toList.length = len := by rw [← hlen, d1]; simp
              let base : List AV := (List.range (len * ie.size)).map fun k => (ie.zero[k % ie.size]?).getD .any
              let basev : Array Value := (Array.range (len * ie.size)).map (z.cells[· % z.cells.size]!)
              obtain ⟨cells', f1, _, f3⟩ := fill_dense (sz := ie.size) (parts.toList.map fun x => (x.1, ρ x.2)) 0 base es hes (by simp [base]; rw [← hplen]; simp)
              have hzero : len * ie.size = 0 ∨ 0 < ie.size := by
                rcases Nat.eq_zero_or_pos ie.size with h0 | h0
                · left; simp [h0]
                · right; exact h0
              have hbase : CellsRep G base basev := by
                refine ⟨by simp [base, basev], fun j c u hc hu => ?_⟩
                have hj : j < len * ie.size := by have := (List.getElem?_eq_some_iff.1 hc).1; simpa [base] using this
                have hpos : 0 < ie.size := by rcases hzero with h0 | h0; (· omega); exact h0
                have hm : j % ie.size < ie.size := Nat.mod_lt _ hpos
                have hm2 : j % ie.size < z.cells.size := by omega
                simp [base, hj] at hc
                simp [basev, hj] at hu
                subst hc; subst hu
                rw [← zl, hzlen]
                have h1 : ie.zero[j % ie.size]? = some ie.zero[j % ie.size] := by simp [hzlen, hm]
                rw [h1]
                simp only [Option.getD_some]
                have h2 : z.cells[j % ie.size]! = z.cells[j % ie.size] := by simp [hm2]
                rw [h2]
                exact zr G _ _ _ h1 (by simp [hm2])
              obtain ⟨vs', v1, v2⟩ := fillA_ok (e := e) parts.toList _ _ _ hbase hp f1
              have hle := immExt_le hw (es.length * ie.size) vs'
              have hnew := hw.newImm (es.length * ie.size) vs' el (w.alloc (.cells vs' el)) rfl rfl rfl rfl
              refine ⟨el, vs', immExt G w.heap.size (es.length * ie.size) vs', hd, rfl, ?_, hle, hnew, .sl ?_ ?_⟩
              · unfold execOp
                by_cases h0 : len * ie.size = 0
                · have hr0 : Array.range 0 = #[] := rfl
                  have hb0 : basev = #[] := by simp [basev, h0, hr0]
                  rw [hb0] at v1
                  simp [ho, Instr.buildSlice, run_underlying hd, Go.sizeOf, typeInfo, heinfo, hesz, h0, hr0, v1, newRow]
                · simp only [ho, Sem.run_bind]
                  rw [run_buildSlice w t el len _ vs' einfo z hd heinfo hz (by rw [hesz]; omega) (by rw [hesz]; exact h0) (by rw [hesz]; simpa using v1)]
                  rfl
              · rw [← hlen]
                refine newImm_rep d2 (Nat.le_refl _) _ (Nat.le_refl _) (fun i e' j d h1 h2 => ?_)
                obtain ⟨c, hc, hcd⟩ := f3 i e' j d h1 h2
                rw [Nat.zero_add] at hc
                have hlt : i * ie.size + j < vs'.size := by rw [v2.1]; exact (List.getElem?_eq_some_iff.1 hc).1
                have hu : vs'[i * ie.size + j]? = some vs'[i * ie.size + j] := by simp [hlt]
                exact ⟨_, hu, (toDat_ok (v2.2 _ _ _ hc hu).1 hcd).mono hle.imm⟩
              · exact ⟨some ⟨w.heap.size, 0, none⟩, by rw [hlen]⟩
            · cases hv
          · cases hv
        · cases hv
      · cases hv
    · cases hv

theorem buildSl_ok (hT : TOk P T) {t len : Nat} {parts : Array (Nat × Operand)} (ho : o.op = .buildSlice t len parts) (hv : buildSlA T t len (parts.toList.map fun x => (x.1, ρ x.2)) = some v) : OpS P E o ρ h v h :=
  OpS_of_run fun G e w hw hr => by
    obtain ⟨el, vs', G', _, _, h1, h2, h3, h4⟩ := buildSl_run hT ho hv G e w hw hr
    exact ⟨_, _, G', h1, h2, h3, h4⟩
end
end Tdoc
