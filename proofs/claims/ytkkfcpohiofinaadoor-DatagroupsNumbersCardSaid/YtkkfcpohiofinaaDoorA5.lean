/- Operations that make or change memory: new blocks, variables, loads and stores, literals of slices, append. No program is named here. -/
import Derived.Test.YtkkfcpohiofinaaDoorA4
import Derived.Laws.AppendOwn
import Derived.Laws.Append
set_option linter.unusedSimpArgs false
set_option linter.unusedVariables false
namespace Tdoc
open Go

/-- An operation over the abstract heap. -/
def OpS (P : Program) (E : Env) (o : Oper) (ρ : Operand → AV) (h : List AObj) (v : AV) (h' : List AObj) : Prop :=
  ∀ (G : Gh) (a : Act) (w : World), WRel E G h w → (∀ x, x ∈ o.op.operands.toList → RepA G (ρ x) (a.eval x)) →
    o.wp P a w (fun a' w' => ∃ u G', a' = a.put o.dst u ∧ G.le G' ∧ WRel E G' h' w' ∧ RepA G' v u) (fun _ _ _ => False)

section
variable {P : Program} {E : Env} {o : Oper} {ρ : Operand → AV} {h h' : List AObj} {v : AV}

theorem OpS_of_run (H : ∀ (G : Gh) (e : Operand → Value) (w : World), WRel E G h w → (∀ x, x ∈ o.op.operands.toList → RepA G (ρ x) (e x)) →
    ∃ u w' G', (execOp e o).run P w = .ok (.value u) w' ∧ G.le G' ∧ WRel E G' h' w' ∧ RepA G' v u) : OpS P E o ρ h v h' := by
  intro G a w hw hr
  obtain ⟨u, w', G', h1, h2, h3, h4⟩ := H G a.eval w hw hr
  unfold Oper.wp
  rw [h1]
  exact ⟨u, G', rfl, h2, h3, h4⟩

theorem OpS_of_skip (H : ∀ (G : Gh) (e : Operand → Value) (w : World), WRel E G h w → (∀ x, x ∈ o.op.operands.toList → RepA G (ρ x) (e x)) →
    ∃ w' G', (execOp e o).run P w = .ok .skip w' ∧ G.le G' ∧ WRel E G' h' w') : OpS P E o ρ h .any h' := by
  intro G a w hw hr
  obtain ⟨w', G', h1, h2, h3⟩ := H G a.eval w hw hr
  unfold Oper.wp
  rw [h1]
  exact ⟨undef, G', rfl, h2, h3, .any _⟩

theorem OpS_of_pure (H : OpP P o ρ v) : OpS P E o ρ h v h :=
  OpS_of_run fun G e w hw hr => by
    obtain ⟨u, h1, h2⟩ := H G e w hw.imm hr
    exact ⟨u, w, G, h1, .refl G, hw, h2⟩

/-! ### worlds that agree where it matters -/

theorem RowAt.keep {G G' : Gh} {w w' : World} {b : Nat} {cells : List AV} (hle : G.le G') (hb : w'.heap[b]? = w.heap[b]?) (hr : RowAt G w b cells) : RowAt G' w' b cells := by
  intro j c hj
  obtain ⟨v, h1, h2, h3, h4⟩ := hr j c hj
  exact ⟨v, by rw [World.cell?_of_block (w := w) hb]; exact h1, h2, h3.mono hle, by rw [World.frozen?_of_block (w := w) hb]; exact h4⟩

theorem BufOk.trans {G G' : Gh} {w w' : World} {i i' sz n cap : Nat} {cells cells' : List AV} {a : Option Addr} (h : BufOk G w i sz n cap cells a) (hlen : cells'.length = cells.length)
    (hs : ∀ b, G.own b = some i → G'.own b = some i' ∧ w'.heap[b]? = w.heap[b]? ∧ ∀ x : Addr, x.block = b → G.imm x = none → G'.imm x = none)
    (hc : ∀ (j : Nat) (c' : AV), cells'[j]? = some c' → ∃ c, cells[j]? = some c ∧ ∀ v, RepA G c v → RepA G' c' v) : BufOk G' w' i' sz n cap cells' a := by
  obtain ⟨h1, h2, h3, h4⟩ := h
  refine ⟨by rw [hlen]; exact h1, h2, h3, fun p hp hc0 => ?_⟩
  obtain ⟨q1, q2, q3, q4⟩ := h4 p hp hc0
  obtain ⟨k1, k2, k3⟩ := hs _ q2
  have hb : ∀ j, w'.heap[(p.add j).block]? = w.heap[(p.add j).block]? := fun j => by rw [add_block]; exact k2
  refine ⟨q1, k1, fun j c' hj => ?_, fun j hj => ?_⟩
  · obtain ⟨c, hcj, hr⟩ := hc j c' hj
    obtain ⟨v, r1, r2, r3⟩ := q3 j c hcj
    exact ⟨v, by rw [World.cell?_of_block (w := w) (hb j)]; exact r1, r2, hr v r3⟩
  · obtain ⟨⟨v, r1⟩, r2, r3⟩ := q4 j hj
    exact ⟨⟨v, by rw [World.cell?_of_block (w := w) (hb j)]; exact r1⟩, by rw [World.frozen?_of_block (w := w) (hb j)]; exact r2, k3 _ (add_block p j) r3⟩

theorem ObjRel.keep {G G' : Gh} {w w' : World} {i : Nat} {ob : AObj} (hle : G.le G') (hs : ∀ b, G.own b = some i → w'.heap[b]? = w.heap[b]? ∧ ∀ a : Addr, a.block = b → G'.imm a = G.imm a)
    (hrt : ∀ n, G.rt i n = none → G'.rt i n = none) (hlc : G.loc i = none → G'.loc i = none) (hr : ObjRel G w i ob) : ObjRel G' w' i ob := by
  cases ob with
  | dead => trivial
  | room => exact ⟨hlc hr.1, fun n => hrt n (hr.2 n)⟩
  | row cells =>
    obtain ⟨b, h1, h2, h3, h4⟩ := hr
    have hk := hs b h2
    exact ⟨b, hle.loc _ _ h1, hle.own _ _ h2, h3.keep hle hk.1, fun a ha => by rw [hk.2 a ha]; exact h4.1 a ha, fun n => hrt n (h4.2 n)⟩
  | buf sz n cells =>
    obtain ⟨a, cap, h1, h2, h3⟩ := hr
    exact ⟨a, cap, hle.rt _ _ _ h1, fun n' hn => hrt _ (h2 n' hn), h3.trans rfl (fun b hb => ⟨hle.own _ _ hb, (hs b hb).1, fun x hx hn => by rw [(hs b hb).2 x hx]; exact hn⟩) (fun j c hj => ⟨c, hj, fun v hv => hv.mono hle⟩)⟩
  | right sz n =>
    obtain ⟨a, cap, h1, h2, h3, h4⟩ := hr
    refine ⟨a, cap, hle.rt _ _ _ h1, h2, fun n' hn => hrt _ (h3 n' hn), fun hlt => ?_⟩
    obtain ⟨p, q1, q2, q3, q4⟩ := h4 hlt
    have hk := hs _ q3
    refine ⟨p, q1, q2, hle.own _ _ q3, fun j hj1 hj2 => ?_⟩
    obtain ⟨⟨v, r1⟩, r2, r3⟩ := q4 j hj1 hj2
    have hb : w'.heap[(p.add j).block]? = w.heap[(p.add j).block]? := by rw [add_block]; exact hk.1
    exact ⟨⟨v, by rw [World.cell?_of_block (w := w) hb]; exact r1⟩, by rw [World.frozen?_of_block (w := w) hb]; exact r2, by rw [hk.2 _ (add_block p j)]; exact r3⟩

/-- What a new block brings: some of its first cells may be known for ever. -/
def immExt (G : Gh) (b n : Nat) (cs : Array Value) : Gh :=
  { G with imm := fun a => if a.block = b then (if a.spot = none ∧ a.off < n then cs[a.off]? else none) else G.imm a }

theorem heap_push_old (w : World) (ob : Obj) (i : Nat) (h : i < w.heap.size) : (w.heap.push ob)[i]? = w.heap[i]? := by
  rw [Array.getElem?_push, if_neg (by omega)]

theorem immExt_le {E : Env} {G : Gh} {h : List AObj} {w : World} (hw : WRel E G h w) (n : Nat) (cs : Array Value) : G.le (immExt G w.heap.size n cs) := by
  refine ⟨fun a v ha => ?_, fun _ _ x => x, fun _ _ _ x => x, fun _ _ x => x⟩
  have hlt := World.block_lt_of_cell? _ _ (hw.imm a v ha)
  show (if a.block = w.heap.size then _ else G.imm a) = some v
  rw [if_neg (by omega)]; exact ha

theorem WRel.newImm {E : Env} {G : Gh} {h : List AObj} {w : World} (hw : WRel E G h w) (n : Nat) (cs : Array Value) (t : TypeId) (w' : World) (hh : w'.heap = w.heap.push (.cells cs t)) (ho : w'.os = w.os) (ht : w'.tape = w.tape) (hout : w'.output = w.output) :
    WRel E (immExt G w.heap.size n cs) h w' := by
  have hle := immExt_le hw n cs
  have hK : ¬ E.K w.heap.size := fun hk => by have := hw.size; have := hk.1; omega
  refine ⟨hw.le.trans hle, fun a v ha => ?_, fun a v ha => ?_, fun b hb => ?_, by rw [hh]; simp; have := hw.size; omega, ho.trans hw.os, ht.trans hw.tape, hout.trans hw.output, fun b i hb => ?_, hw.fresh, fun i ob hi => ?_⟩
  · have ha' : (if a.block = w.heap.size then (if a.spot = none ∧ a.off < n then cs[a.off]? else none) else G.imm a) = some v := ha
    split at ha'
    · rename_i hb
      split at ha'
      · rename_i hs
        simp only [World.cell?, hh, hb, Array.getElem?_push, if_true, hs.1]
        simpa using ha'
      · cases ha'
    · have hc := hw.imm a v ha'
      have hlt := World.block_lt_of_cell? _ _ hc
      rw [World.cell?_of_block (w := w) (by rw [hh]; exact heap_push_old _ _ _ hlt)]
      exact hc
  · have ha' : (if a.block = w.heap.size then (if a.spot = none ∧ a.off < n then cs[a.off]? else none) else G.imm a) = some v := ha
    split at ha'
    · rename_i hb; right; rw [hb]; exact hK
    · exact hw.immNew a v ha'
  · rw [hh, heap_push_old _ _ _ (Nat.lt_of_lt_of_le hb.1 hw.size)]; exact hw.keep b hb
  · have := hw.own b i hb
    exact ⟨by rw [hh]; simp; omega, this.2⟩
  · refine (hw.obj i ob hi).keep hle (fun b hb => ?_) (fun n hn => hn) (fun hn => hn)
    have hlt := (hw.own b i hb).1
    refine ⟨by rw [hh]; exact heap_push_old _ _ _ hlt, fun a ha => ?_⟩
    show (if a.block = w.heap.size then _ else G.imm a) = G.imm a
    rw [if_neg (by omega)]

/-- A new object of the abstract heap. -/
def rowNew (G : Gh) (i b : Nat) : Gh :=
  { G with loc := fun j => if j = i then some b else G.loc j, own := fun c => if c = b then some i else G.own c }

theorem WRel.newRow {E : Env} {G : Gh} {h : List AObj} {w : World} (hw : WRel E G h w) (cs : Array Value) (t : TypeId) (cells : List AV) (hs : cs.size = cells.length)
    (hc : ∀ (j : Nat) (c : AV) (u : Value), cells[j]? = some c → cs[j]? = some u → RepA G c u ∧ oneC u = true) (w' : World) (hh : w'.heap = w.heap.push (.cells cs t)) (ho : w'.os = w.os) (ht : w'.tape = w.tape) (hout : w'.output = w.output) :
    G.le (rowNew G h.length w.heap.size) ∧ WRel E (rowNew G h.length w.heap.size) (h ++ [.row cells]) w' := by
  have hf := hw.fresh h.length (Nat.le_refl _)
  have hown : G.own w.heap.size = none := by
    cases ho : G.own w.heap.size with
    | none => rfl
    | some i => have := (hw.own _ _ ho).1; omega
  have hle : G.le (rowNew G h.length w.heap.size) := by
    refine ⟨fun _ _ x => x, fun i b x => ?_, fun _ _ _ x => x, fun b i x => ?_⟩
    · show (if i = h.length then some w.heap.size else G.loc i) = some b
      split
      · rename_i e; subst e; rw [hf.1] at x; cases x
      · exact x
    · show (if b = w.heap.size then some h.length else G.own b) = some i
      split
      · rename_i e; subst e; rw [hown] at x; cases x
      · exact x
  have hK : ¬ E.K w.heap.size := fun hk => by have := hw.size; have := hk.1; omega
  refine ⟨hle, hw.le.trans hle, fun a v ha => ?_, hw.immNew, fun b hb => ?_, by rw [hh]; simp; have := hw.size; omega, ho.trans hw.os, ht.trans hw.tape, hout.trans hw.output, fun b i hb => ?_, fun i hi => ?_, fun i ob hi => ?_⟩
  · have hc := hw.imm a v ha
    rw [World.cell?_of_block (w := w) (by rw [hh]; exact heap_push_old _ _ _ (World.block_lt_of_cell? _ _ hc))]
    exact hc
  · rw [hh, heap_push_old _ _ _ (Nat.lt_of_lt_of_le hb.1 hw.size)]; exact hw.keep b hb
  · have hb' : (if b = w.heap.size then some h.length else G.own b) = some i := hb
    split at hb'
    · rename_i e; subst e; exact ⟨by rw [hh]; simp, hK⟩
    · have := hw.own b i hb'; exact ⟨by rw [hh]; simp; omega, this.2⟩
  · simp only [List.length_append, List.length_cons, List.length_nil] at hi
    have := hw.fresh i (by omega)
    refine ⟨?_, this.2⟩
    show (if i = h.length then some w.heap.size else G.loc i) = none
    rw [if_neg (by omega)]; exact this.1
  · by_cases hlt : i < h.length
    · rw [List.getElem?_append_left hlt] at hi
      refine (hw.obj i ob hi).keep hle (fun b hb => ?_) (fun n hn => hn) (fun hn => by show (if i = h.length then _ else G.loc i) = none; rw [if_neg (by omega)]; exact hn)
      exact ⟨by rw [hh]; exact heap_push_old _ _ _ (hw.own b i hb).1, fun a ha => rfl⟩
    · rw [List.getElem?_append_right (by omega)] at hi
      have hi0 : i - h.length = 0 := by
        have := (List.getElem?_eq_some_iff.1 hi).1
        simp at this; omega
      rw [hi0] at hi
      simp at hi
      subst hi
      have hie : i = h.length := by omega
      subst hie
      refine ⟨w.heap.size, ?_, ?_, fun j c hj => ?_, fun a ha => ?_, fun n => hf.2 n⟩
      · show (if h.length = h.length then _ else _) = _; simp
      · show (if w.heap.size = w.heap.size then _ else _) = _; simp
      · have hjl : j < cs.size := by rw [hs]; exact (List.getElem?_eq_some_iff.1 hj).1
        obtain ⟨u, hu⟩ : ∃ u, cs[j]? = some u := ⟨cs[j], by simp [hjl]⟩
        obtain ⟨r1, r2⟩ := hc j c u hj hu
        exact ⟨u, by simp [World.cell?, hh, hu], r2, r1.mono hle, by simp [World.frozen?, hh]⟩
      · cases hg : G.imm a with
        | none => exact hg
        | some v => have := World.block_lt_of_cell? _ _ (hw.imm a v hg); omega

/-! ### variables -/

theorem alloc_ok {T : Tr} (hT : TOk P T) {t : Nat} {i : TI} (ho : o.op = .alloc t) (hf : T.find t = some i) : OpS P E o ρ h (.ptr h.length 0) (h ++ [.row i.zero]) :=
  OpS_of_run fun G e w hw hr => by
    have hti := hT.at hf
    obtain ⟨z, hz, hzc⟩ := hti.run_zero (w := w)
    obtain ⟨hl, hc⟩ := zrepL_ok hzc
    have hn := hw.newRow z.cells t i.zero (by simp [hl]) (fun j c u h1 h2 => hc G j c u h1 (by simpa using h2)) { w with heap := w.heap.push (.cells z.cells t) } rfl rfl rfl rfl
    refine ⟨.pointer (some ⟨w.heap.size, 0, none⟩), _, _, ?_, hn.1, hn.2, .ptr 0 ?_⟩
    · unfold execOp
      simp [ho, Instr.alloc, hz, newVar, newRow]
    · show (if h.length = h.length then _ else _) = _; simp

theorem box_ok {t : Nat} {x : Operand} {cs : List AV} (ho : o.op = .box t x) (hx : cellsA (ρ x) = some cs) : OpS P E o ρ h (.ptr h.length 0) (h ++ [.row cs]) :=
  OpS_of_run fun G e w hw hr => by
    have hx' : RepA G (ρ x) (e x) := hr x (by simp [ho, Op.operands])
    obtain ⟨hl, hc⟩ := cellsA_ok hx' hx
    have hn := hw.newRow (e x).cells t cs hl (fun j c u h1 h2 => hc j c u h1 h2) { w with heap := w.heap.push (.cells (e x).cells t) } rfl rfl rfl rfl
    refine ⟨.pointer (some ⟨w.heap.size, 0, none⟩), _, _, ?_, hn.1, hn.2, .ptr 0 ?_⟩
    · unfold execOp
      simp [ho, Instr.box, newVar, newRow]
    · show (if h.length = h.length then _ else _) = _; simp

/-- A load from an object. -/
def loadA (T : Tr) (t : Nat) (cells : List AV) (off : Nat) : Option AV := match T.find t with
  | some i => match i.agg with
    | true => match Nat.ble (off + i.size) cells.length with
      | true => some (.agg ((cells.drop off).take i.size))
      | false => none
    | false => cells[off]?
  | none => none

theorem load_ok {T : Tr} (hT : TOk P T) {t i off : Nat} {x : Operand} {cells : List AV} (ho : o.op = .load t x) (hx : ρ x = .ptr i off) (hi : h[i]? = some (.row cells)) (hv : loadA T t cells off = some v) :
    OpS P E o ρ h v h :=
  OpS_of_run fun G e w hw hr => by
    have hx' : RepA G (ρ x) (e x) := hr x (by simp [ho, Op.operands])
    rw [hx] at hx'
    obtain ⟨b, hb, hl⟩ := hx'.ptr_inv
    obtain ⟨b', hl', hown, hrow, himm⟩ := hw.obj i _ hi
    rw [hl] at hl'; cases hl'
    unfold loadA at hv
    split at hv
    · rename_i ti hf
      have hti := hT.at hf
      split at hv
      · rename_i hagg
        split at hv
        · rename_i hble
          have hle := Nat.le_of_ble_eq_true hble
          cases hv
          have hcell : ∀ j, j < ti.size → ∃ u, w.cell? ⟨b, off + j, none⟩ = some u ∧ oneC u = true ∧ RepA G (cells[off + j]?.getD .any) u := by
            intro j hj
            have hc : cells[off + j]? = some cells[off + j] := by simp [show off + j < cells.length by omega]
            obtain ⟨u, h1, h2, h3, _⟩ := hrow _ _ hc
            exact ⟨u, h1, h2, by rw [hc]; exact h3⟩
          let f : Nat → Value := fun j => (w.cell? ⟨b, off + j, none⟩).getD undef
          have hld : (loadCells ⟨b, off, none⟩ ti.size).run P w = .ok ((List.range ti.size).map f).toArray w := by
            refine run_loadCells (P := P) w _ _ f (fun j hj => ?_)
            obtain ⟨u, h1, _⟩ := hcell j hj
            rw [add_mk]; simp [f, h1]
          refine ⟨.agg ((List.range ti.size).map f).toArray, w, G, ?_, .refl G, hw, .agg _ (by simp; omega) (fun j c y hc hy => ?_) (fun j y hy => ?_)⟩
          · unfold execOp
            simp [ho, Instr.loadAt, hb, Instr.sureAddr, loadVar, hti.run_agg, hagg, hti.run_size, hld]
          · simp only [List.getElem?_take, List.getElem?_drop] at hc
            split at hc
            · rename_i hj
              obtain ⟨u, h1, h2, h3⟩ := hcell j hj
              simp [hj, f, h1] at hy
              subst hy
              rw [hc] at h3; exact h3
            · cases hc
          · by_cases hj : j < ti.size
            · obtain ⟨u, h1, h2, h3⟩ := hcell j hj
              simp [hj, f, h1] at hy
              subst hy; exact h2
            · simp [hj] at hy
        · cases hv
      · rename_i hagg
        obtain ⟨u, h1, h2, h3, _⟩ := hrow _ _ hv
        refine ⟨u, w, G, ?_, .refl G, hw, h3⟩
        unfold execOp
        simp [ho, Instr.loadAt, hb, Instr.sureAddr, loadVar, hti.run_agg, hagg, h1]
    · cases hv

/-- Cells written one behind the other. -/
def setRun : List AV → Nat → List AV → List AV
  | cs, _, [] => cs
  | cs, off, c :: r => setRun (cs.set off c) (off + 1) r

theorem setRun_length : ∀ (new cs : List AV) (off : Nat), (setRun cs off new).length = cs.length
  | [], _, _ => rfl
  | c :: r, cs, off => by simp [setRun, setRun_length r]

theorem oneC_oneCell' {v : Value} (h : oneC v = true) : v.oneCell' = true := by cases v <;> simp_all [oneC, Value.oneCell']

/-- Cells stored into a row of an object. -/
theorem store_cells {G : Gh} {b : Nat} : ∀ (vs : List Value) (new cells : List AV) (off i0 : Nat) (w : World), RowAt G w b cells → off + i0 + vs.length ≤ cells.length → vs.length = new.length →
    (∀ (j : Nat) (c : AV) (u : Value), new[j]? = some c → vs[j]? = some u → RepA G c u ∧ oneC u = true) →
    ∃ w', (storeCells ⟨b, off, none⟩ vs i0).run P w = .ok () w' ∧ RowAt G w' b (setRun cells (off + i0) new) ∧ (∀ k, k ≠ b → w'.heap[k]? = w.heap[k]?) ∧ w'.heap.size = w.heap.size ∧
      w'.os = w.os ∧ w'.tape = w.tape ∧ w'.output = w.output
  | [], new, cells, off, i0, w, hr, hle, hlen, hv => by
    cases new with
    | nil => exact ⟨w, by simp [storeCells], hr, fun _ _ => rfl, rfl, rfl, rfl, rfl⟩
    | cons _ _ => simp at hlen
  | u :: vs, new, cells, off, i0, w, hr, hle, hlen, hv => by
    cases new with
    | nil => simp at hlen
    | cons c new =>
      simp only [List.length_cons] at hle hlen
      obtain ⟨hc, hu⟩ := hv 0 c u (by simp) (by simp)
      have hget : cells[off + i0]? = some cells[off + i0] := by simp [show off + i0 < cells.length by omega]
      obtain ⟨u0, h1, h2, h3, h4⟩ := hr _ _ hget
      have hrow' : RowAt G (w.setCell ⟨b, off + i0, none⟩ u) b (cells.set (off + i0) c) := by
        intro j d hj
        rw [List.getElem?_set] at hj
        split at hj
        · rename_i e; subst e
          split at hj
          · cases hj
            exact ⟨u, World.cell?_setCell_same _ _ _ h1, hu, hc, by rw [World.frozen?_setCell]; exact h4⟩
          · cases hj
        · rename_i e
          obtain ⟨y, k1, k2, k3, k4⟩ := hr j d hj
          exact ⟨y, by rw [World.cell?_setCell_other _ _ _ _ (by intro hh; apply e; injection hh)]; exact k1, k2, k3, by rw [World.frozen?_setCell]; exact k4⟩
      obtain ⟨w', q1, q2, q3, q4, q5, q6, q7⟩ := store_cells vs new (cells.set (off + i0) c) off (i0 + 1) _ hrow' (by simp; omega) (by omega) (fun j d y hd hy => hv (j + 1) d y (by simpa using hd) (by simpa using hy))
      refine ⟨w', ?_, ?_, fun k hk => ?_, ?_, q5, q6, q7⟩
      · simp only [storeCells, Sem.run_bind]
        rw [add_mk, run_store P w _ u .plain (oneC_oneCell' hu), h1]
        simp only [h4, Bool.false_eq_true, if_false, Result.andThen_ok]
        exact q1
      · simpa [setRun, Nat.add_assoc] using q2
      · rw [q3 k hk]
        simp only [World.setCell, Array.getElem?_modify]
        rw [if_neg (by simpa using fun hh => hk hh.symm)]
      · rw [q4]; simp

theorem WRel.setObj {G : Gh} {w w' : World} {i b : Nat} {cells cells' : List AV} (hw : WRel E G h w) (hi : h[i]? = some (.row cells)) (hl : G.loc i = some b) (hr : RowAt G w' b cells') (hk : ∀ k, k ≠ b → w'.heap[k]? = w.heap[k]?)
    (hs : w'.heap.size = w.heap.size) (ho : w'.os = w.os) (ht : w'.tape = w.tape) (hout : w'.output = w.output) : WRel E G (h.set i (.row cells')) w' := by
  obtain ⟨b', hl', hown, hrow, himm⟩ := hw.obj i _ hi
  rw [hl] at hl'; cases hl'
  have hKb := (hw.own b i hown).2
  refine ⟨hw.le, fun a v ha => ?_, hw.immNew, fun c hc => ?_, by rw [hs]; exact hw.size, ho.trans hw.os, ht.trans hw.tape, hout.trans hw.output, fun c j hc => by rw [hs]; exact hw.own c j hc, fun j hj => hw.fresh j (by simpa using hj), fun j ob hj => ?_⟩
  · have : a.block ≠ b := fun e => by rw [himm.1 a e] at ha; cases ha
    rw [World.cell?_of_block (w := w) (hk _ this)]
    exact hw.imm a v ha
  · have : c ≠ b := fun e => hKb (e ▸ hc)
    rw [hk _ this]; exact hw.keep c hc
  · rw [List.getElem?_set] at hj
    split at hj
    · rename_i e; subst e
      split at hj
      · cases hj; exact ⟨b, hl, hown, hr, himm⟩
      · cases hj
    · rename_i e
      refine (hw.obj j ob hj).keep (.refl G) (fun c hc => ⟨hk _ ?_, fun _ _ => rfl⟩) (fun _ hn => hn) (fun hn => hn)
      intro hcb; subst hcb
      rw [hown] at hc; cases hc; exact e rfl

def storeA (T : Tr) (t : Nat) (cells : List AV) (off : Nat) (x : AV) : Option (List AV) := match T.find t with
  | some i => match cellsA x with
    | some cs => match Nat.beq cs.length i.size && Nat.ble (off + i.size) cells.length with
      | true => some (setRun cells off cs)
      | false => none
    | none => none
  | none => none

theorem store_ok {T : Tr} (hT : TOk P T) {t i off : Nat} {x y : Operand} {cells cells' : List AV} (ho : o.op = .store t x y) (hx : ρ x = .ptr i off) (hi : h[i]? = some (.row cells)) (hv : storeA T t cells off (ρ y) = some cells') :
    OpS P E o ρ h .any (h.set i (.row cells')) :=
  OpS_of_skip fun G e w hw hr => by
    have hx' : RepA G (ρ x) (e x) := hr x (by simp [ho, Op.operands])
    have hy' : RepA G (ρ y) (e y) := hr y (by simp [ho, Op.operands])
    rw [hx] at hx'
    obtain ⟨b, hb, hl⟩ := hx'.ptr_inv
    obtain ⟨b', hl', hown, hrow, himm⟩ := hw.obj i _ hi
    rw [hl] at hl'; cases hl'
    unfold storeA at hv
    split at hv
    · rename_i ti hf
      have hti := hT.at hf
      split at hv
      · rename_i cs hcs
        split at hv
        · rename_i hbb
          simp only [Bool.and_eq_true] at hbb
          have hlen := Nat.eq_of_beq_eq_true hbb.1
          have hle := Nat.le_of_ble_eq_true hbb.2
          cases hv
          obtain ⟨c1, c2⟩ := cellsA_ok hy' hcs
          obtain ⟨w', q1, q2, q3, q4, q5, q6, q7⟩ := store_cells (P := P) (e y).cells.toList cs cells off 0 w hrow (by simp; omega) (by simp [c1]) (fun j d u hd hu => c2 j d u hd (by simpa using hu))
          refine ⟨w', G, ?_, .refl G, hw.setObj hi hl (by simpa using q2) q3 q4 q5 q6 q7⟩
          unfold execOp
          have hsz : (e y).cells.size = ti.size := by rw [c1, hlen]
          simp [ho, Instr.storeAt, hb, Instr.sureAddr, storeVar, hti.run_size, hsz, q1]
        · cases hv
      · cases hv
    · cases hv
end
end Tdoc
