/- New objects laid into a room, so that a callee can hand them back. No program is named here. -/
import Derived.Test.YtkkfcpohiofinaaDoorR1
import Derived.Laws.Small
set_option linter.unusedSimpArgs false
set_option linter.unusedVariables false
namespace Tdoc
open Go

section
variable {P : Program} {E : Env} {T : Tr} {o : Oper} {ρ : Operand → AV} {h h' : List AObj} {v : AV}

theorem WRel.newRowAt {G : Gh} {w : World} {i0 : Nat} (hw : WRel E G h w) (hroom : h[i0]? = some .room) (cs : Array Value) (t : TypeId) (cells : List AV) (hs : cs.size = cells.length)
    (hc : ∀ (j : Nat) (c : AV) (u : Value), cells[j]? = some c → cs[j]? = some u → RepA G c u ∧ oneC u = true) (w' : World) (hh : w'.heap = w.heap.push (.cells cs t)) (ho : w'.os = w.os) (ht : w'.tape = w.tape) (hout : w'.output = w.output) :
    G.le (rowNew G i0 w.heap.size) ∧ WRel E (rowNew G i0 w.heap.size) (h.set i0 (.row cells)) w' := by
  have hf := hw.obj i0 _ hroom
  have hi0 : i0 < h.length := (List.getElem?_eq_some_iff.1 hroom).1
  have hown : G.own w.heap.size = none := by
    cases ho : G.own w.heap.size with
    | none => rfl
    | some i => have := (hw.own _ _ ho).1; omega
  have hle : G.le (rowNew G i0 w.heap.size) := by
    refine ⟨fun _ _ x => x, fun i b x => ?_, fun _ _ _ x => x, fun b i x => ?_⟩
    · show (if i = i0 then some w.heap.size else G.loc i) = some b
      split
      · rename_i e; subst e; rw [hf.1] at x; cases x
      · exact x
    · show (if b = w.heap.size then some i0 else G.own b) = some i
      split
      · rename_i e; subst e; rw [hown] at x; cases x
      · exact x
  have hK : ¬ E.K w.heap.size := fun hk => by have := hw.size; have := hk.1; omega
  refine ⟨hle, hw.le.trans hle, fun a v ha => ?_, hw.immNew, fun b hb => ?_, by rw [hh]; simp; have := hw.size; omega, ho.trans hw.os, ht.trans hw.tape, hout.trans hw.output, fun b i hb => ?_, fun i hi => ?_, fun i ob hi => ?_⟩
  · have hc := hw.imm a v ha
    rw [World.cell?_of_block (w := w) (by rw [hh]; exact heap_push_old _ _ _ (World.block_lt_of_cell? _ _ hc))]
    exact hc
  · rw [hh, heap_push_old _ _ _ (Nat.lt_of_lt_of_le hb.1 hw.size)]; exact hw.keep b hb
  · have hb' : (if b = w.heap.size then some i0 else G.own b) = some i := hb
    split at hb'
    · rename_i e; subst e; exact ⟨by rw [hh]; simp, hK⟩
    · have := hw.own b i hb'; exact ⟨by rw [hh]; simp; omega, this.2⟩
  · simp only [List.length_set] at hi
    have := hw.fresh i (by omega)
    refine ⟨?_, this.2⟩
    show (if i = i0 then some w.heap.size else G.loc i) = none
    rw [if_neg (by omega)]; exact this.1
  · rw [List.getElem?_set] at hi
    by_cases hie : i0 = i
    · subst hie
      simp only [if_true, hi0] at hi
      cases hi
      refine ⟨w.heap.size, ?_, ?_, fun j c hj => ?_, fun a ha => ?_, fun n => hf.2 n⟩
      · show (if i0 = i0 then _ else _) = _; simp
      · show (if w.heap.size = w.heap.size then _ else _) = _; simp
      · have hjl : j < cs.size := by rw [hs]; exact (List.getElem?_eq_some_iff.1 hj).1
        obtain ⟨u, hu⟩ : ∃ u, cs[j]? = some u := ⟨cs[j], by simp [hjl]⟩
        obtain ⟨r1, r2⟩ := hc j c u hj hu
        exact ⟨u, by simp [World.cell?, hh, hu], r2, r1.mono hle, by simp [World.frozen?, hh]⟩
      · cases hg : G.imm a with
        | none => exact hg
        | some v => have := World.block_lt_of_cell? _ _ (hw.imm a v hg); omega
    · rw [if_neg hie] at hi
      refine (hw.obj i ob hi).keep hle (fun b hb => ?_) (fun n hn => hn) (fun hn => by show (if i = i0 then _ else G.loc i) = none; rw [if_neg (fun e => hie e.symm)]; exact hn)
      exact ⟨by rw [hh]; exact heap_push_old _ _ _ (hw.own b i hb).1, fun a ha => rfl⟩

theorem allocAt_ok (hT : TOk P T) {t i0 : Nat} {i : TI} (ho : o.op = .alloc t) (hf : T.find t = some i) (hroom : h[i0]? = some .room) : OpS P E o ρ h (.ptr i0 0) (h.set i0 (.row i.zero)) :=
  OpS_of_run fun G e w hw hr => by
    have hti := hT.at hf
    obtain ⟨z, hz, hzc⟩ := hti.run_zero (w := w)
    obtain ⟨hl, hc⟩ := zrepL_ok hzc
    have hn := hw.newRowAt hroom z.cells t i.zero (by simp [hl]) (fun j c u h1 h2 => hc G j c u h1 (by simpa using h2)) { w with heap := w.heap.push (.cells z.cells t) } rfl rfl rfl rfl
    refine ⟨.pointer (some ⟨w.heap.size, 0, none⟩), _, _, ?_, hn.1, hn.2, .ptr 0 ?_⟩
    · unfold execOp
      simp [ho, Instr.alloc, hz, newVar, newRow]
    · show (if i0 = i0 then _ else _) = _; simp

theorem boxAt_ok {t i0 : Nat} {x : Operand} {cs : List AV} (ho : o.op = .box t x) (hx : cellsA (ρ x) = some cs) (hroom : h[i0]? = some .room) : OpS P E o ρ h (.ptr i0 0) (h.set i0 (.row cs)) :=
  OpS_of_run fun G e w hw hr => by
    have hx' : RepA G (ρ x) (e x) := hr x (by simp [ho, Op.operands])
    obtain ⟨hl, hc⟩ := cellsA_ok hx' hx
    have hn := hw.newRowAt hroom (e x).cells t cs hl (fun j c u h1 h2 => hc j c u h1 h2) { w with heap := w.heap.push (.cells (e x).cells t) } rfl rfl rfl rfl
    refine ⟨.pointer (some ⟨w.heap.size, 0, none⟩), _, _, ?_, hn.1, hn.2, .ptr 0 ?_⟩
    · unfold execOp
      simp [ho, Instr.box, newVar, newRow]
    · show (if i0 = i0 then _ else _) = _; simp

/-! numbers: the greater, the smaller of two -/
theorem max2_ok {x y : Operand} {t1 t2 : Array TypeId} {k : IntKind} {a b : Int} (ho : o.op = .call { callee := .builtin .max, args := #[x, y], argTypes := t1 }) (hx : ρ x = .d (.int k a)) (hy : ρ y = .d (.int k b)) : OpP P o ρ (.d (.int k (if b > a then b else a))) := by
  intro G e w hi hr
  have hx' : RepA G (ρ x) (e x) := hr x (by simp [ho, Op.operands, Call.operands])
  have hy' : RepA G (ρ y) (e y) := hr y (by simp [ho, Op.operands, Call.operands])
  rw [hx] at hx'; rw [hy] at hy'
  refine ⟨.int k (if b > a then b else a), ?_, .d (.int _ _)⟩
  unfold execOp
  simp [ho, resolve, invoke, builtin, hx'.int_inv, hy'.int_inv, run_max_int2 w]

theorem min2_ok {x y : Operand} {t1 t2 : Array TypeId} {k : IntKind} {a b : Int} (ho : o.op = .call { callee := .builtin .min, args := #[x, y], argTypes := t1 }) (hx : ρ x = .d (.int k a)) (hy : ρ y = .d (.int k b)) : OpP P o ρ (.d (.int k (if b < a then b else a))) := by
  intro G e w hi hr
  have hx' : RepA G (ρ x) (e x) := hr x (by simp [ho, Op.operands, Call.operands])
  have hy' : RepA G (ρ y) (e y) := hr y (by simp [ho, Op.operands, Call.operands])
  rw [hx] at hx'; rw [hy] at hy'
  refine ⟨.int k (if b < a then b else a), ?_, .d (.int _ _)⟩
  unfold execOp
  simp [ho, resolve, invoke, builtin, hx'.int_inv, hy'.int_inv, run_min_int2 w]
end

/-! steps by a contract, the heap behind them laid open -/
theorem force_some {h h' : List AObj} (hh : forceS h some = some h') : h' = h := by rw [forceS_eq] at hh; exact (Option.some.inj hh).symm

theorem AWk_opF {P : Program} {E : Env} {N : Nat} {ops : List Oper} {Q : (Nat → AV) → List AObj → Prop} {d : Nat} {op : Op} {ty : TypeId} {pos : String} {after : Array Edge} {rest : List Oper}
    {l : List (Nat × AV)} {h h1 h' : List AObj} {v : AV} (hs : OpS P E ⟨some d, op, ty, pos, after, none⟩ (ev (look l)) h v h1) (hd : Nat.blt d N = true) (hh : forceS h1 some = some h') (hk : AWk P E N ops Q rest (look ((d, v) :: l)) h') :
    AWk P E N ops Q (⟨some d, op, ty, pos, after, none⟩ :: rest) (look l) h := by
  obtain rfl := force_some hh
  exact AWk_op hs hd hk

theorem AWk_op0 {P : Program} {E : Env} {N : Nat} {ops : List Oper} {Q : (Nat → AV) → List AObj → Prop} {op : Op} {ty : TypeId} {pos : String} {after : Array Edge} {rest : List Oper}
    {l : List (Nat × AV)} {h h1 h' : List AObj} {v : AV} (hs : OpS P E ⟨none, op, ty, pos, after, none⟩ (ev (look l)) h v h1) (hh : forceS h1 some = some h') (hk : AWk P E N ops Q rest (look l) h') :
    AWk P E N ops Q (⟨none, op, ty, pos, after, none⟩ :: rest) (look l) h := by
  obtain rfl := force_some hh
  exact ⟨_, ⟨rfl, OpR_of_S hs⟩, fun v' h'' ⟨h1, h2⟩ => by subst h1; subst h2; exact hk⟩
end Tdoc
