/- Memory that is only read for a while: a piece of code over lent objects, an owned list told as data. No program is named here. -/
import Derived.Test.YtoaogfehdalmdaaGreatDoorK9
import Derived.Test.YtoaogfehdalmdaaGreatDoorK2
import Derived.Test.YtoaogfehdalmdaaGreatDoorK8
set_option linter.unusedSimpArgs false
set_option linter.unusedVariables false
namespace Tdoc
open Go

def ghW (G : Gh) (w : World) : Gh := ⟨fun a => w.cell? a, G.loc, G.rt, fun _ => none⟩

theorem TokOk.lent {G : Gh} {w : World} {tok : Tok} {n : Nat} {v : Value} (r : TokOk G tok n v) : TokOk (ghW G w) tok n v := by
  cases tok <;> exact r

theorem rep_lent {G : Gh} {w : World} (hi : ∀ a v, G.imm a = some v → w.cell? a = some v) {x : AV} {v : Value} (r : RepA G x v) : RepA (ghW G w) x v := by
  induction r with
  | d r => exact .d (r.mono hi)
  | sl r t => exact .sl (r.mono hi) t.lent
  | nils => exact .nils
  | ptr off hl => exact .ptr off hl
  | iptr a vs h1 h2 h3 => exact .iptr a vs h1 (fun j d hd => hi _ _ (h2 j d hd)) (fun j d hd => (h3 j d hd).mono hi)
  | nilp => exact .nilp
  | row off n cap hl => exact .row off n cap hl
  | bm a cap hr hz => exact .bm a cap hr hz
  | bp p cap k hr => exact .bp p cap k hr
  | fn f fs cs h1 h2 _ _ ih1 ih2 => exact .fn f fs cs h1 h2 ih1 ih2
  | nilf => exact .nilf
  | ifc h => exact .ifc h
  | agg vs h1 _ h3 ih => exact .agg vs h1 ih h3
  | tup vs h1 _ ih => exact .tup vs h1 ih
  | gd _ hu ih => exact .gd ih hu
  | any v => exact .any v

/-- An object's cells, where memory stands still from the beginning of an environment on. -/
def Lent (E : Env) (i : Nat) (cells : List AV) : Prop :=
  ∃ b, E.G0.loc i = some b ∧ ∀ (j : Nat) (c : AV), cells[j]? = some c → ∃ v, E.G0.imm ⟨b, j, none⟩ = some v ∧ oneC v = true ∧ RepA E.G0 c v

/-- What holds of a value behind the code holds of it in the memory that was lent. -/
def LBack (h : List AObj) (x y : AV) : Prop := ∀ (E : Env) (G G2 : Gh) (w : World) (v : Value), WRel E G h w → (∀ i b, G.loc i = some b → G2.loc i = some b) → (∀ i n z, G.rt i n = some z → G2.rt i n = some z) → RepA G2 x v → RepA G y v

theorem LBack.int {h : List AObj} {k : IntKind} {z : Int} : LBack h (.d (.int k z)) (.d (.int k z)) := fun E G G2 w v _ _ _ r => by rw [r.int_inv]; exact .d (.int k z)
theorem LBack.any {h : List AObj} {x : AV} : LBack h x .any := fun E G G2 w v _ _ _ r => .any v
theorem LBack.ptr {h : List AObj} {i off : Nat} {cells : List AV} (hi : h[i]? = some (.row cells)) : LBack h (.ptr i off) (.ptr i off) := fun E G G2 w v hw hl hr r => by
  obtain ⟨b, rfl, h1⟩ := r.ptr_inv
  obtain ⟨b', h2, _⟩ := hw.obj i _ hi
  have := hl i b' h2
  rw [h1] at this; cases this
  exact .ptr off h2
theorem LBack.bm {h : List AObj} {i n sz : Nat} {cells : List AV} {es : List (List Dat)} (hi : h[i]? = some (.buf sz n cells)) (hn : es.length = n) : LBack h (.sl sz es (.right i)) (.bm i n) := fun E G G2 w v hw hl hr r => by
  obtain ⟨a, cap, h2, h3, h4, h5, h6, h7⟩ := hw.obj i _ hi
  cases r with
  | sl r t =>
    obtain ⟨a', cap', rfl, h8⟩ := t
    rw [hn] at h8 ⊢
    have := hr i n _ h2
    rw [h8] at this; cases this
    exact .bm a cap h2 (fun ha => by have := h6.1 ha; omega)

def LenB (h : List AObj) : List (Nat × AV) → List (Nat × AV) → Prop
  | [], [] => True
  | p :: l, q :: r => p.1 = q.1 ∧ LBack h p.2 q.2 ∧ LenB h l r
  | _, _ => False
theorem LenB_look {h : List AObj} : ∀ {l r : List (Nat × AV)}, LenB h l r → ∀ t, LBack h (look l t) (look r t)
  | [], [], _, t => .any
  | p :: l, q :: r, ⟨h1, h2, h3⟩, t => by
    obtain ⟨s, x⟩ := p
    obtain ⟨s', y⟩ := q
    simp only at h1 h2
    subst h1
    show LBack h (bif Nat.beq t s then x else look l t) (bif Nat.beq t s then y else look r t)
    cases Nat.beq t s with
    | true => exact h2
    | false => exact LenB_look h3 t
  | [], q :: r, hf, t => hf.elim
  | p :: l, [], hf, t => hf.elim

theorem AW_lend {P : Program} {E : Env} {N : Nat} {c : Code} {Q : Exit → (Nat → AV) → List AObj → Prop} {l : List (Nat × AV)} {h : List AObj} (l1 l2 : List (Nat × AV)) (t i : Nat) {n sz : Nat} {cells : List AV} (es : List (List Dat))
    (ht : look l t = .bm i n) (hi : h[i]? = some (.buf sz n cells)) (hn : es.length = n) (hd : RowDat cells 0 sz es)
    (hb : LenB h l1 l2) (H : ∀ E' : Env, (∀ (j : Nat) (cs : List AV), h[j]? = some (.row cs) → Lent E' j cs) → AW P E' N c (fun e τ' _ => e = .normal ∧ SubL τ' l1) (look ((t, .sl sz es (.right i)) :: l)) (h.map fun _ => .dead))
    (hQ : Q .normal (look l2) h) : AW P E N c Q (look l) h := by
  intro a w ⟨h1, h2, G, hw, hr⟩
  obtain ⟨m, m1, m2, m3⟩ := bufFrozen hw hi hn hd
  have htab : TabOk w (ghW G w) := ⟨TabI.mono (fun a v ha => hw.imm a v (hw.le.imm a v ha)) E.tab.1, hw.tabB fun _ _ => rfl⟩
  have hw' : WRel ⟨w, ghW G w, htab⟩ (ghW G w) (h.map fun _ => .dead) w :=
    ⟨.refl _, fun a v ha => ha, fun a v ha => .inl ha, fun b hb => rfl, Nat.le_refl _, rfl, rfl, rfl, fun b i hb => (by cases hb), fun j hj => hw.fresh j (by simpa using hj), fun j o hj => by
      rw [List.getElem?_map, Option.map_eq_some_iff] at hj
      obtain ⟨_, _, rfl⟩ := hj
      exact True.intro⟩
  have hL : ∀ (j : Nat) (cs : List AV), h[j]? = some (.row cs) → Lent ⟨w, ghW G w, htab⟩ j cs := fun j cs hj => by
    obtain ⟨b, k1, _, k2, _⟩ := hw.obj j _ hj
    exact ⟨b, k1, fun k c hc => by
      obtain ⟨v, c1, c2, c3, _⟩ := k2 k c hc
      exact ⟨v, c1, c2, rep_lent hw.imm c3⟩⟩
  refine wp_mono (H ⟨w, ghW G w, htab⟩ hL a w ⟨h1, h2, ghW G w, hw', fun s => ?_⟩) ?_
  · show RepA _ (bif Nat.beq s t then _ else look l s) _
    cases hbq : Nat.beq s t with
    | false => exact rep_lent hw.imm (hr s)
    | true =>
      obtain rfl := Nat.eq_of_beq_eq_true hbq
      have hx := hr s
      rw [ht] at hx
      have hD := (m3 _ hx).mono m2
      obtain ⟨p, cap, hv, hl⟩ := hx.bm_inv
      refine .sl hD ⟨p, cap, by rw [hv, hn], ?_⟩
      rw [hn]; exact hl
  · rintro e a' w' ⟨τ', h', ⟨rfl, hsub⟩, g1, g2, G2, hw2, hr2⟩
    exact ⟨look l2, h, hQ, g1, g2, G, WRel_grow hw (fun b hb => hw2.keep b ⟨hb, rfl⟩) hw2.size hw2.os hw2.tape hw2.output, fun s =>
      LenB_look hb s E G G2 w _ hw hw2.le.loc hw2.le.rt (SubL_look hsub s _ _ (hr2 s))⟩

section
variable {P : Program} {T : Tr} {E : Env} {o : Oper} {ρ : Operand → AV} {h : List AObj} {v : AV}
theorem lent_load (hT : TOk P T) {t i off : Nat} {x : Operand} {cells : List AV} (ho : o.op = .load t x) (hx : ρ x = .ptr i off) (hL : Lent E i cells) (hv : loadA T t cells off = some v) : OpS P E o ρ h v h :=
  OpS_of_run fun G e w hw hr => by
    have hx' : RepA G (ρ x) (e x) := hr x (by simp [ho, Op.operands])
    rw [hx] at hx'
    obtain ⟨b, hb, hl⟩ := hx'.ptr_inv
    obtain ⟨b', hl', hrow0⟩ := hL
    have := hw.le.loc _ _ hl'
    rw [hl] at this; cases this
    have hrow : ∀ (j : Nat) (c : AV), cells[j]? = some c → ∃ v, w.cell? ⟨b, j, none⟩ = some v ∧ oneC v = true ∧ RepA G c v := fun j c hc => by
      obtain ⟨u, c1, c2, c3⟩ := hrow0 j c hc
      exact ⟨u, hw.imm _ _ (hw.le.imm _ _ c1), c2, c3.mono hw.le⟩
    unfold loadA at hv
    split at hv
    · rename_i ti hf
      have hti := hT.at hf
      split at hv
      · rename_i hagg
        split at hv
        · rename_i hble
          have hle := Nat.le_of_ble_eq_true hble
          cases hv
          have hcell : ∀ j, j < ti.size → ∃ u, w.cell? ⟨b, off + j, none⟩ = some u ∧ oneC u = true ∧ RepA G (cells[off + j]?.getD .any) u := by
            intro j hj
            have hc : cells[off + j]? = some cells[off + j] := by simp [show off + j < cells.length by omega]
            obtain ⟨u, h1, h2, h3⟩ := hrow _ _ hc
            exact ⟨u, h1, h2, by rw [hc]; exact h3⟩
          let f : Nat → Value := fun j => (w.cell? ⟨b, off + j, none⟩).getD undef
          have hld : (loadCells ⟨b, off, none⟩ ti.size).run P w = .ok ((List.range ti.size).map f).toArray w := by
            refine run_loadCells (P := P) w _ _ f (fun j hj => ?_)
            obtain ⟨u, h1, _⟩ := hcell j hj
            rw [add_mk]; simp [f, h1]
          refine ⟨.agg ((List.range ti.size).map f).toArray, w, G, ?_, .refl G, hw, .agg _ (by simp; omega) (fun j c y hc hy => ?_) (fun j y hy => ?_)⟩
          · unfold execOp
            simp [ho, Instr.loadAt, hb, Instr.sureAddr, loadVar, hti.run_agg, hagg, hti.run_size, hld]
          · simp only [List.getElem?_take, List.getElem?_drop] at hc
            split at hc
            · rename_i hj
              obtain ⟨u, h1, h2, h3⟩ := hcell j hj
              simp [hj, f, h1] at hy
              subst hy
              rw [hc] at h3; exact h3
            · cases hc
          · by_cases hj : j < ti.size
            · obtain ⟨u, h1, h2, h3⟩ := hcell j hj
              simp [hj, f, h1] at hy
              subst hy; exact h2
            · simp [hj] at hy
        · cases hv
      · rename_i hagg
        obtain ⟨u, h1, h2, h3⟩ := hrow _ _ hv
        refine ⟨u, w, G, ?_, .refl G, hw, h3⟩
        unfold execOp
        simp [ho, Instr.loadAt, hb, Instr.sureAddr, loadVar, hti.run_agg, hagg, h1]
    · cases hv

open Classical in
/-- An append to nothing, into a room, as an owned list. -/
theorem bufApp0_ok (hT : TOk P T) {t t2 sz by_ i : Nat} {s x : Operand} {es2 : List (List Dat)} (ho : o.op = .call { callee := .builtin .append, args := #[s, x], argTypes := #[t, t2] })
    (ht : appT T t = some (sz, by_)) (ht2 : srcT T t2 = true) (hs : ρ s = .sl sz [] .full ∨ ρ s = .nils) (hsx : s ≠ x) (hi : h[i]? = some .room) (hx : asNew sz (ρ x) = some es2) (hb : es2.length * (by_ + 1) ≤ 140737488355328) :
    OpS P E o ρ h (.bm i es2.length) (h.set i (.buf sz es2.length (flatAV es2))) := by
  intro G a w hw hr
  have hs' : RepA G (ρ s) (a.eval s) := hr s (by simp [ho, Op.operands, Call.operands])
  obtain ⟨p, hv', hsp⟩ : ∃ p : Option Addr, a.eval s = .slice p 0 0 ∧ ∀ q, p = some q → q.spot = none := by
    rcases hs with ht | ht
    · rw [ht] at hs'
      generalize a.eval s = u at hs'
      cases hs' with
      | sl r k =>
        obtain ⟨p, rfl⟩ := k
        obtain ⟨a', cap', h5, h6, h7⟩ := r.slice_inv
        cases h5
        exact ⟨p, rfl, fun q hq => (h7 q hq).1⟩
    · rw [ht] at hs'
      generalize a.eval s = u at hs'
      cases hs'; exact ⟨none, rfl, fun q hq => by cases hq⟩
  have hrm := hw.obj i _ hi
  have hilt : i < h.length := (List.getElem?_eq_some_iff.1 hi).1
  have hle := rtSet_le (G := G) (i := i) (n := 0) (x := (p, 0)) (hrm.2 0)
  have hw1 : WRel E (rtSet G i 0 (p, 0)) (h.set i (.buf sz 0 [])) w := by
    refine ⟨hw.le.trans hle, hw.imm, hw.immNew, hw.keep, hw.size, hw.os, hw.tape, hw.output, hw.own, fun j hj => ?_, fun j o hj => ?_⟩
    · simp only [List.length_set] at hj
      have := hw.fresh j hj
      exact ⟨this.1, fun n => by rw [rtSet_ne (by omega)]; exact this.2 n⟩
    · rw [List.getElem?_set] at hj
      by_cases hij : i = j
      · subst hij
        simp only [if_true, hilt] at hj
        cases hj
        exact ⟨p, 0, rtSet_at _ _ _ _, fun n' hn' => by rw [rtSet_ne (by omega)]; exact hrm.2 n', by simp, Nat.le_refl _, ⟨fun _ => rfl, hsp⟩, fun _ _ hc => by omega⟩
      · rw [if_neg hij] at hj
        exact (hw.obj j o hj).keep hle (fun b hb => ⟨rfl, fun _ _ => rfl⟩) (fun n hn => by rw [rtSet_ne (fun hc => hij hc.1.symm)]; exact hn) (fun hn => hn)
  have hstep := bufApp_ok (P := P) (E := E) (T := T) (o := o) (ρ := fun y => if y = s then .bm i 0 else ρ y) (h := h.set i (.buf sz 0 [])) (i := i) (n := 0) (cells := []) hT ho ht ht2 (if_pos rfl) (by simp [hilt])
    (by show asNew sz (if x = s then _ else ρ x) = some es2; rw [if_neg (fun hh => hsx hh.symm)]; exact hx) (by simpa using hb)
  have := hstep (rtSet G i 0 (p, 0)) a w hw1 (fun y hy => by
    show RepA _ (if y = s then _ else ρ y) _
    split
    · rename_i e; subst e; rw [hv']; exact .bm _ _ (rtSet_at _ _ _ _) (fun _ => rfl)
    · exact (hr y hy).mono hle)
  refine wp_mono2 ?_ this
  rintro a' w' ⟨u, G', k1, k2, k3, k4⟩
  refine ⟨u, G', k1, hle.trans k2, ?_, by simpa using k4⟩
  rw [List.set_set] at k3
  simpa using k3
end
end Tdoc
/- An owned list that a cell of another object holds, frozen. No program is named here. -/
set_option linter.unusedSimpArgs false
set_option linter.unusedVariables false
namespace Tdoc
open Go

theorem WRel.freezeBuf {E : Env} {G : Gh} {h : List AObj} {w : World} {i n sz : Nat} {cells : List AV} {es : List (List Dat)} (hw : WRel E G h w) (hi : h[i]? = some (.buf sz n cells)) (hn : es.length = n) (hd : RowDat cells 0 sz es) :
    ∃ G', G.le G' ∧ WRel E G' (h.set i (.right sz n)) w ∧ ∀ v, RepA G (.bm i n) v → RepA G' (.sl sz es (.right i)) v := by
  obtain ⟨p, cap, hl, hlater, hb1, hb2, hb3, hb4⟩ := hw.obj i _ hi
  have hilt : i < h.length := (List.getElem?_eq_some_iff.1 hi).1
  cases p with
  | none =>
    have hc0 := hb3.1 rfl
    have hn0 : n = 0 := by omega
    have hes : es = [] := List.length_eq_zero_iff.1 (by omega)
    subst hn0; subst hes; subst hc0
    refine ⟨G, .refl G, ⟨hw.le, hw.imm, hw.immNew, hw.keep, hw.size, hw.os, hw.tape, hw.output, hw.own, fun j hj => hw.fresh j (by simpa using hj), fun j o hj => ?_⟩, fun v hv => ?_⟩
    · rw [List.getElem?_set] at hj
      by_cases hij : i = j
      · subst hij
        simp only [if_true, hilt] at hj
        cases hj
        exact ⟨none, 0, hl, Nat.le_refl _, hlater, fun hlt => by omega⟩
      · rw [if_neg hij] at hj; exact hw.obj j o hj
    · obtain ⟨p', cap', rfl, hl'⟩ := hv.bm_inv
      rw [hl] at hl'; cases hl'
      exact .sl (.nil sz) ⟨none, 0, rfl, hl⟩
  | some p =>
    have hsp := hb3.2 p rfl
    by_cases hcap0 : 0 < cap
    · obtain ⟨q1, q2, q3, q4⟩ := hb4 p rfl hcap0
      have hns : n * sz ≤ cap * sz := Nat.mul_le_mul_right _ hb2
      let G' : Gh := { G with imm := fun a => if a.block = p.block ∧ a.spot = none ∧ p.off ≤ a.off ∧ a.off < p.off + n * sz then w.cell? a else G.imm a }
      have hle : G.le G' := by
        refine ⟨fun x u hu => ?_, fun _ _ h => h, fun _ _ _ h => h, fun _ _ h => h⟩
        have hne : ¬ (x.block = p.block ∧ x.spot = none ∧ p.off ≤ x.off ∧ x.off < p.off + n * sz) := fun hh => by
          have := (q4 (x.off - p.off) (by omega)).2.2
          rw [add_off p q1, ← hh.1, show p.off + (x.off - p.off) = x.off by omega, ← hh.2.1] at this
          rw [show (⟨x.block, x.off, x.spot⟩ : Addr) = x from rfl, hu] at this
          cases this
        show (if _ then _ else _) = _
        rw [if_neg hne]; exact hu
      have hKb := (hw.own _ i q2).2
      have hat : ∀ k, k < n * sz → G'.imm (p.add k) = w.cell? (p.add k) := fun k hk => by
        show (if _ then _ else _) = _
        rw [if_pos (by rw [add_off p q1]; exact ⟨rfl, rfl, by simp, by simp; omega⟩)]
      refine ⟨G', hle, ⟨hw.le.trans hle, fun x u hu => ?_, fun x u hu => ?_, hw.keep, hw.size, hw.os, hw.tape, hw.output, hw.own, fun j hj => hw.fresh j (by simpa using hj), fun j o hj => ?_⟩, fun v hv => ?_⟩
      · simp only [G'] at hu
        split at hu
        · exact hu
        · exact hw.imm x u hu
      · simp only [G'] at hu
        split at hu
        · rename_i hh; right; rw [hh.1]; exact hKb
        · exact hw.immNew x u hu
      · rw [List.getElem?_set] at hj
        by_cases hij : i = j
        · subst hij
          simp only [if_true, hilt] at hj
          cases hj
          refine ⟨some p, cap, hl, hb2, hlater, fun hlt => ⟨p, rfl, q1, q2, fun k hk1 hk2 => ?_⟩⟩
          obtain ⟨c1, c2, c3⟩ := q4 k hk2
          refine ⟨c1, c2, ?_⟩
          show (if _ then _ else _) = _
          rw [if_neg (by rw [add_off p q1]; simp; omega)]; exact c3
        · rw [if_neg hij] at hj
          refine (hw.obj j o hj).keep hle (fun b hb => ⟨rfl, fun x hx => ?_⟩) (fun _ h => h) (fun h => h)
          have hne : b ≠ p.block := fun hh => by subst hh; rw [q2] at hb; cases hb; exact hij rfl
          show (if _ then _ else _) = _
          rw [if_neg (fun hh => hne (hx.symm.trans hh.1))]
      · obtain ⟨p', cap', rfl, hl'⟩ := hv.bm_inv
        rw [hl] at hl'; cases hl'
        have hcell : ∀ (i' : Nat) (e : List Dat) (j : Nat) (d : Dat), es[i']? = some e → e[j]? = some d → G'.imm (p.add (i' * sz + j)) = some ((w.cell? (p.add (i' * sz + j))).getD undef) ∧ RepD G'.imm d ((w.cell? (p.add (i' * sz + j))).getD undef) := by
          intro i' e j d he hj
          obtain ⟨c, g1, g2⟩ := hd.2 i' e j d he hj
          rw [Nat.zero_add] at g1
          have hlt := (List.getElem?_eq_some_iff.1 g1).1
          obtain ⟨u, u1, u2, u3⟩ := q3 _ c g1
          rw [hat _ (by omega), u1]
          exact ⟨rfl, (toDat_ok u3 g2).mono hle.imm⟩
        refine .sl ?_ ⟨some p, cap, by rw [hn], by rw [hn]; exact hl⟩
        rw [← hn]
        exact .sl sz es p cap (fun k => (w.cell? (p.add k)).getD undef) q1 (by omega) hd.1 (fun i' e j d he hj => (hcell i' e j d he hj).1) (fun i' e j d he hj => (hcell i' e j d he hj).2)
    · have hc0 : cap = 0 := by omega
      have hn0 : n = 0 := by omega
      have hes : es = [] := List.length_eq_zero_iff.1 (by omega)
      subst hn0; subst hes; subst hc0
      refine ⟨G, .refl G, ⟨hw.le, hw.imm, hw.immNew, hw.keep, hw.size, hw.os, hw.tape, hw.output, hw.own, fun j hj => hw.fresh j (by simpa using hj), fun j o hj => ?_⟩, fun v hv => ?_⟩
      · rw [List.getElem?_set] at hj
        by_cases hij : i = j
        · subst hij
          simp only [if_true, hilt] at hj
          cases hj
          exact ⟨some p, 0, hl, Nat.le_refl _, hlater, fun hlt => by omega⟩
        · rw [if_neg hij] at hj; exact hw.obj j o hj
      · obtain ⟨p', cap', rfl, hl'⟩ := hv.bm_inv
        rw [hl] at hl'; cases hl'
        exact .sl (RepD.sl sz [] p 0 (fun _ => undef) hsp (Nat.le_refl _) (fun e he => by cases he) (fun i e j d he => by simp at he) (fun i e j d he => by simp at he)) ⟨some p, 0, rfl, hl⟩

theorem AW_freezeBufH {P : Program} {E : Env} {N : Nat} {Q : Exit → (Nat → AV) → List AObj → Prop} {c : Code} {τ : Nat → AV} {h h' : List AObj} (k o i : Nat) {n sz : Nat} {cells row : List AV} (es : List (List Dat)) (hk : h[k]? = some (.row row)) (ho : row[o]? = some (.bm i n)) (hi : h[i]? = some (.buf sz n cells)) (hn : es.length = n)
    (hd : RowDat cells 0 sz es) (hh : forceS ((h.set i (.right sz n)).set k (.row (row.set o (.sl sz es (.right i))))) some = some h') (hc : AW P E N c Q τ h') : AW P E N c Q τ h := by
  rw [forceS_eq] at hh; cases hh
  refine AW_sub (fun a w ⟨h1, h2, G, hw, hr⟩ => ?_) hc
  obtain ⟨G', hle, hw', hf⟩ := hw.freezeBuf hi hn hd
  have hki : i ≠ k := fun hh => by subst hh; rw [hi] at hk; cases hk
  obtain ⟨b, k1, k2, k3, k4⟩ := hw.obj k _ hk
  refine ⟨h1, h2, G', ⟨hw'.le, hw'.imm, hw'.immNew, hw'.keep, hw'.size, hw'.os, hw'.tape, hw'.output, hw'.own, fun j hj => hw'.fresh j (by simpa using hj), fun j ob hj => ?_⟩, fun s => (hr s).mono hle⟩
  rw [List.getElem?_set] at hj
  by_cases hkj : k = j
  · subst hkj
    have hkl : k < h.length := (List.getElem?_eq_some_iff.1 hk).1
    simp only [if_true, List.length_set, hkl] at hj
    cases hj
    obtain ⟨b', g1, g2, g3, g4⟩ := hw'.obj k (.row row) (by rw [List.getElem?_set_ne hki]; exact hk)
    refine ⟨b', g1, g2, fun j c hj => ?_, g4⟩
    rw [List.getElem?_set] at hj
    by_cases hoj : o = j
    · subst hoj
      have hol : o < row.length := (List.getElem?_eq_some_iff.1 ho).1
      simp only [if_true, hol] at hj
      cases hj
      have hbb : b = b' := by have := hle.loc _ _ k1; rw [g1] at this; cases this; rfl
      subst hbb
      obtain ⟨v, c1, c2, c3, c4⟩ := k3 o _ ho
      exact ⟨v, c1, c2, hf v c3, c4⟩
    · rw [if_neg hoj] at hj
      exact g3 j c hj
  · rw [if_neg hkj] at hj
    exact hw'.obj j ob hj
end Tdoc
/- Decide of the reference, whose reasons the caller owns. -/
set_option linter.unusedVariables false
set_option linter.unusedSimpArgs false
namespace Tdoc
open Go Go.Proofs

theorem minF_stay {rs : List Rule} {rule : Int} {k : Nat} {l : List Res} (hk : k < l.length) (h : minF rs rule (k + 1) l = l) : forceF (l.eraseIdx k) 0 rs ≠ rule ∧ minF rs rule k l = l := by
  rw [minF] at h
  split at h
  · exfalso
    have h1 := (minF_sub rs rule k (l.eraseIdx k)).length_le
    rw [h, List.length_eraseIdx_of_lt hk] at h1
    omega
  · rename_i h1; exact ⟨h1, h⟩

set_option maxHeartbeats 8000000 in
set_option maxRecDepth 100000 in
theorem DecideRO_spec (rs : List Rule) (l : List Res) (hv0 : validPol rs = 0) (hl0 : Nat13 l) (hs : ∀ r, r ∈ rs → smallC (condR r)) :
    Spec Tryz.prog 11 [polAV rs, .d (.sl 2 (encRes l))] [.room] (fun r h' => r = .tup [.agg [.d (.int .i64 (decideF rs l).1.v), .d (.int .i64 (decideF rs l).1.rule), .bm 0 (decideF rs l).1.rs.length], .d (.int .i64 0)] ∧ h' = [.buf 2 (decideF rs l).1.rs.length (rowR (decideF rs l).1.rs)]) := by
  rw [decideF_ok hv0 hl0]
  have h13 := hl0.1
  have hrs := (validPol_zero hv0).1
  have hv := ValidR_spec rs hs
  rw [hv0] at hv
  have hp := properR_spec l (by omega)
  rw [hl0.proper] at hp
  have hrg := forceF_range l rs 0
  have hvd := verdictR_spec rs (forceF l 0 rs) (by omega)
  have hlen := encRes_length l
  have hrlen := encRs_length rs
  have hfh : forceF l 0 rs = holdI l 0 rs := force_hold hl0.full rs 0 (validPol_zero hv0).2
  have hrule := force_full hl0.full rs (validPol_zero hv0).2
  have hen : ∀ x : List Res, x.length ≤ 1000000 → Spec Tryz.prog 34 [polAV rs, .d (.sl 2 (encRes x)), .d (.int .i64 (forceF l 0 rs))] [] (fun r h' => r = .d (.bool (decide (forceF x 0 rs = forceF l 0 rs))) ∧ h' = []) := fun x hx => by
    have := forces_spec rs x (forceF l 0 rs) hx (by omega) hs
    rw [forcesF_eq x (forceF l 0 rs) hrule rs 0 (by omega)] at this
    exact this
  have hH0 := fun c hc => HoldsR_spec c l (by omega) hc
  unfold polAV at hv hvd hen ⊢
  simp only
  generalize verdF rs (forceF l 0 rs) = vd at hvd
  generalize hfin : minF rs (forceF l 0 rs) l.length l = fin
  refine Spec_of_body hT Tryz.func11 rfl rfl rfl rfl ?_
  intro E hE
  repeat (first | refine wk hT rfl rfl ?_ | refine wd hT rfl rfl rfl ?_ | refine wz hT rfl ?_ | refine AWd_nil ?_ | refine AWk_nil ?_ | refine wh hT rfl rfl rfl rfl ?_ | refine wg hT rfl rfl rfl rfl rfl ?_ | refine AW_seq ?_ | refine AW_region ?_ | refine wx mixed ?_ | refine AW_block ?_ | refine AW_skip ?_ | refine AW_exit ?_ | refine AW_ret ?_)
  first | refine AWk_op (callS0 rfl rfl (hv) rfl rfl rfl) rfl ?_ | refine AWd_op (callS0 rfl rfl (hv) rfl rfl rfl) rfl rfl ?_ | refine AWk_op (callS0L rfl rfl (hv) rfl (by repeat (first | exact trivial | exact AV.le.refl _ | exact AV.le.dat | exact AV.le.nils | exact AV.le.nilsf | exact AV.le.any _ | exact ObLe.refl _ | exact ⟨rfl, rfl⟩ | refine AV.le.tup ?_ | refine AV.le.agg ?_ | exact li | exact lb | exact ls | exact lk | exact ld | exact lz | refine ⟨?_, ?_⟩)) rfl rfl) rfl ?_ | refine AWd_op (callS0L rfl rfl (hv) rfl (by repeat (first | exact trivial | exact AV.le.refl _ | exact AV.le.dat | exact AV.le.nils | exact AV.le.nilsf | exact AV.le.any _ | exact ObLe.refl _ | exact ⟨rfl, rfl⟩ | refine AV.le.tup ?_ | refine AV.le.agg ?_ | exact li | exact lb | exact ls | exact lk | exact ld | exact lz | refine ⟨?_, ?_⟩)) rfl rfl) rfl rfl ?_
  repeat (first | refine wk hT rfl rfl ?_ | refine wd hT rfl rfl rfl ?_ | refine wz hT rfl ?_ | refine AWd_nil ?_ | refine AWk_nil ?_ | refine wh hT rfl rfl rfl rfl ?_ | refine wg hT rfl rfl rfl rfl rfl ?_ | refine AW_seq ?_ | refine AW_region ?_ | refine wx mixed ?_ | refine AW_block ?_ | refine AW_skip ?_ | refine AW_exit ?_ | refine AW_ret ?_)
  refine AW_condL rfl (fun h1 => ?_) (fun h1 => ?_)
  · simp at h1
  · repeat (first | refine wk hT rfl rfl ?_ | refine wd hT rfl rfl rfl ?_ | refine wz hT rfl ?_ | refine AWd_nil ?_ | refine AWk_nil ?_ | refine wh hT rfl rfl rfl rfl ?_ | refine wg hT rfl rfl rfl rfl rfl ?_ | refine AW_seq ?_ | refine AW_region ?_ | refine wx mixed ?_ | refine AW_block ?_ | refine AW_skip ?_ | refine AW_exit ?_ | refine AW_ret ?_)
    first | refine AWk_gop rfl rfl rfl (fun hg => ⟨(sg (C := True) hg).1, callS0 rfl rfl (hp) rfl rfl rfl⟩) ?_ | refine AWd_gop rfl rfl rfl rfl (fun hg => ⟨(sg (C := True) hg).1, callS0 rfl rfl (hp) rfl rfl rfl⟩) ?_
    repeat (first | refine wk hT rfl rfl ?_ | refine wd hT rfl rfl rfl ?_ | refine wz hT rfl ?_ | refine AWd_nil ?_ | refine AWk_nil ?_ | refine wh hT rfl rfl rfl rfl ?_ | refine wg hT rfl rfl rfl rfl rfl ?_ | refine AW_seq ?_ | refine AW_region ?_ | refine wx mixed ?_ | refine AW_block ?_ | refine AW_skip ?_ | refine AW_exit ?_ | refine AW_ret ?_)
    refine AW_condL rfl (fun h2 => ?_) (fun h2 => ?_)
    · exfalso; rw [hlen, h13] at h2; simp at h2
    · repeat (first | refine wk hT rfl rfl ?_ | refine wd hT rfl rfl rfl ?_ | refine wz hT rfl ?_ | refine AWd_nil ?_ | refine AWk_nil ?_ | refine wh hT rfl rfl rfl rfl ?_ | refine wg hT rfl rfl rfl rfl rfl ?_ | refine AW_seq ?_ | refine AW_region ?_ | refine wx mixed ?_ | refine AW_block ?_ | refine AW_skip ?_ | refine AW_exit ?_ | refine AW_ret ?_)
      refine AW_loopL (ι := Nat) (fun k => [(1, .d (.sl 2 (encRes l))), (2, .ptr 1 0), (4, .ptr 2 0), (7, .d (.int .i64 (holdI l k (rs.drop k)))), (8, .d (.int .i64 ((k : Int) - 1)))])
        (fun x => [.room, .row [.d (.sl 6 (encRs rs))], .row [.d (.int .i64 0), .d (.int .i64 0), .sl 2 [] .full]]) (fun k => k ≤ rs.length) (fun k => k) rs.length (Nat.le_refl _)
        ⟨.refl _, .refl _, .refl _, .int (by rw [List.drop_length]; rfl), .int (by rw [hrlen, wrap_id (by omega)]), trivial⟩ (HLe.refl _) ?_
      intro k hk
      repeat (first | refine wk hT rfl rfl ?_ | refine wd hT rfl rfl rfl ?_ | refine wz hT rfl ?_ | refine AWd_nil ?_ | refine AWk_nil ?_ | refine wh hT rfl rfl rfl rfl ?_ | refine wg hT rfl rfl rfl rfl rfl ?_ | refine AW_seq ?_ | refine AW_region ?_ | refine wx mixed ?_ | refine AW_block ?_ | refine AW_skip ?_ | refine AW_exit ?_ | refine AW_ret ?_)
      refine AW_condL rfl (fun h3 => ?_) (fun h3 => ?_)
      · obtain ⟨k, rfl⟩ : ∃ k', k = k' + 1 := ⟨k - 1, by simp at h3; omega⟩
        have hk1 : (((k + 1 : Nat) : Int) - 1) = (k : Int) := by omega
        have hwm : IntKind.i64.wrap ((k : Int) - 1) = (k : Int) - 1 := wrap_id (by omega)
        have hlt : k < rs.length := hk
        have hel := encRs_at hlt
        have hdrop : rs.drop k = rs[k] :: rs.drop (k + 1) := by simp
        have hstep : holdI l (k : Int) (rs.drop k) = if hB l rs[k] = true then (k : Int) else holdI l (((k + 1 : Nat) : Int)) (rs.drop (k + 1)) := by rw [hdrop, holdI]; simp
        have hsm := hs rs[k] (List.getElem_mem hlt)
        rw [hk1]
        generalize holdI l (((k + 1 : Nat) : Int)) (rs.drop (k + 1)) = cur at hstep ⊢
        generalize rs[k] = r at hel hsm hstep
        obtain ⟨v, al, ⟨ck, cc, cw, kids⟩⟩ := r
        have hH := hH0 (.mk ck cc cw kids) hsm
        rw [hB_mk] at hstep
        generalize (validC 8 (.mk ck cc cw kids) && holdsF l 8 (.mk ck cc cw kids)) = hb2 at hH hstep
        repeat (first | refine wk hT rfl rfl ?_ | refine wd hT rfl rfl rfl ?_ | refine wz hT rfl ?_ | refine AWd_nil ?_ | refine AWk_nil ?_ | refine wh hT rfl rfl rfl rfl ?_ | refine wg hT rfl rfl rfl rfl rfl ?_ | refine AW_seq ?_ | refine AW_region ?_ | refine wx mixed ?_ | refine AW_block ?_ | refine AW_skip ?_ | refine AW_exit ?_ | refine AW_ret ?_)
        first | refine AWk_op (OpS_of_pure (indexAddr_ok hT rfl rfl rfl rfl (by omega) (hel))) rfl ?_ | refine AWd_op (OpS_of_pure (indexAddr_ok hT rfl rfl rfl rfl (by omega) (hel))) rfl rfl ?_
        repeat (first | refine wk hT rfl rfl ?_ | refine wd hT rfl rfl rfl ?_ | refine wz hT rfl ?_ | refine AWd_nil ?_ | refine AWk_nil ?_ | refine wh hT rfl rfl rfl rfl ?_ | refine wg hT rfl rfl rfl rfl rfl ?_ | refine AW_seq ?_ | refine AW_region ?_ | refine wx mixed ?_ | refine AW_block ?_ | refine AW_skip ?_ | refine AW_exit ?_ | refine AW_ret ?_)
        first | refine AWk_gop rfl rfl rfl (fun hg => ⟨(sg (C := True) hg).1, OpS_of_pure (indexAddr_ok hT rfl rfl rfl rfl (by omega) (hel))⟩) ?_ | refine AWd_gop rfl rfl rfl rfl (fun hg => ⟨(sg (C := True) hg).1, OpS_of_pure (indexAddr_ok hT rfl rfl rfl rfl (by omega) (hel))⟩) ?_
        repeat (first | refine wk hT rfl rfl ?_ | refine wd hT rfl rfl rfl ?_ | refine wz hT rfl ?_ | refine AWd_nil ?_ | refine AWk_nil ?_ | refine wh hT rfl rfl rfl rfl ?_ | refine wg hT rfl rfl rfl rfl rfl ?_ | refine AW_seq ?_ | refine AW_region ?_ | refine wx mixed ?_ | refine AW_block ?_ | refine AW_skip ?_ | refine AW_exit ?_ | refine AW_ret ?_)
        refine AWk_gop rfl rfl rfl (fun hg' => ⟨by first | exact ⟨hg', hg', True.intro⟩ | exact (sg (C := True) hg').1, callS0 rfl rfl hH rfl rfl rfl⟩) ?_
        repeat (first | refine wk hT rfl rfl ?_ | refine wd hT rfl rfl rfl ?_ | refine wz hT rfl ?_ | refine AWd_nil ?_ | refine AWk_nil ?_ | refine wh hT rfl rfl rfl rfl ?_ | refine wg hT rfl rfl rfl rfl rfl ?_ | refine AW_seq ?_ | refine AW_region ?_ | refine wx mixed ?_ | refine AW_block ?_ | refine AW_skip ?_ | refine AW_exit ?_ | refine AW_ret ?_)
        refine AW_condL rfl (fun h4 => ?_) (fun h4 => ?_)
        · rw [if_pos h4] at hstep
          repeat (first | refine wk hT rfl rfl ?_ | refine wd hT rfl rfl rfl ?_ | refine wz hT rfl ?_ | refine AWd_nil ?_ | refine AWk_nil ?_ | refine wh hT rfl rfl rfl rfl ?_ | refine wg hT rfl rfl rfl rfl rfl ?_ | refine AW_seq ?_ | refine AW_region ?_ | refine wx mixed ?_ | refine AW_block ?_ | refine AW_skip ?_ | refine AW_exit ?_ | refine AW_ret ?_)
          exact ⟨k, by omega, by omega, ⟨.refl _, .refl _, .refl _, .int hstep.symm, .int hwm, trivial⟩, HLe.refl _⟩
        · rw [if_neg (by rw [h4]; simp)] at hstep
          repeat (first | refine wk hT rfl rfl ?_ | refine wd hT rfl rfl rfl ?_ | refine wz hT rfl ?_ | refine AWd_nil ?_ | refine AWk_nil ?_ | refine wh hT rfl rfl rfl rfl ?_ | refine wg hT rfl rfl rfl rfl rfl ?_ | refine AW_seq ?_ | refine AW_region ?_ | refine wx mixed ?_ | refine AW_block ?_ | refine AW_skip ?_ | refine AW_exit ?_ | refine AW_ret ?_)
          exact ⟨k, by omega, by omega, ⟨.refl _, .refl _, .refl _, .int hstep.symm, .int hwm, trivial⟩, HLe.refl _⟩
      · have hk0 : k = 0 := by simp at h3; omega
        subst hk0
        rw [List.drop_zero, show ((0 : Nat) : Int) = 0 from rfl, ← hfh]
        clear hH0 hp hv
        generalize forceF l 0 rs = rule at *
        repeat (first | refine AW_exit ?_ | refine AW_skip ?_)
        refine AW_seq_cut (ι := Bool) (fun b => [(2, .ptr 1 0), (4, .ptr 2 0), (7, .d (.int .i64 rule)), (9, bif b then .bm 0 l.length else .d (.sl 2 (encRes l)))])
          (fun b => [bif b then .buf 2 l.length (rowR l) else .room, .row [.d (.sl 6 (encRs rs))], .row [.d (.int .i64 0), .d (.int .i64 0), .sl 2 [] .full]]) (fun b => b = true ↔ minF rs rule l.length l = l) ?_ (fun b hb0 => ?_)
        · by_cases hinit : minF rs rule l.length l = l
          · repeat (first | refine wk hT rfl rfl ?_ | refine wd hT rfl rfl rfl ?_ | refine wz hT rfl ?_ | refine AWd_nil ?_ | refine AWk_nil ?_ | refine wh hT rfl rfl rfl rfl ?_ | refine wg hT rfl rfl rfl rfl rfl ?_ | refine AW_seq ?_ | refine AW_region ?_ | refine wx mixed ?_ | refine AW_block ?_ | refine AW_skip ?_ | refine AW_exit ?_ | refine AW_ret ?_)
            refine AWk_op (bufApp0_ok (i := 0) hT rfl rfl rfl (.inl rfl) (by simp) rfl rfl (by show (encRes l).length * (16 + 1) ≤ 140737488355328; rw [hlen]; omega)) rfl ?_
            repeat (first | refine wk hT rfl rfl ?_ | refine wd hT rfl rfl rfl ?_ | refine wz hT rfl ?_ | refine AWd_nil ?_ | refine AWk_nil ?_ | refine wh hT rfl rfl rfl rfl ?_ | refine wg hT rfl rfl rfl rfl rfl ?_ | refine AW_seq ?_ | refine AW_region ?_ | refine wx mixed ?_ | refine AW_block ?_ | refine AW_skip ?_ | refine AW_exit ?_ | refine AW_ret ?_)
            exact ⟨true, by simp [hinit], ⟨.refl _, .refl _, .refl _, .eq (by rw [hlen]; rfl), trivial⟩, ⟨⟨rfl, hlen, AllLe.of_eq rfl⟩, ObLe.refl _, ObLe.refl _, trivial⟩⟩
          · repeat (first | refine wk hT rfl rfl ?_ | refine wd hT rfl rfl rfl ?_ | refine wz hT rfl ?_ | refine AWd_nil ?_ | refine AWk_nil ?_ | refine wh hT rfl rfl rfl rfl ?_ | refine wg hT rfl rfl rfl rfl rfl ?_ | refine AW_seq ?_ | refine AW_region ?_ | refine wx mixed ?_ | refine AW_block ?_ | refine AW_skip ?_ | refine AW_exit ?_ | refine AW_ret ?_)
            refine AWk_op (append_full (es := []) hT rfl rfl rfl (.inl rfl) rfl (by show (([] : List (List Dat)).length + (encRes l).length) * (16 + 1) ≤ 140737488355328; rw [hlen]; simp; omega)) rfl ?_
            repeat (first | refine wk hT rfl rfl ?_ | refine wd hT rfl rfl rfl ?_ | refine wz hT rfl ?_ | refine AWd_nil ?_ | refine AWk_nil ?_ | refine wh hT rfl rfl rfl rfl ?_ | refine wg hT rfl rfl rfl rfl rfl ?_ | refine AW_seq ?_ | refine AW_region ?_ | refine wx mixed ?_ | refine AW_block ?_ | refine AW_skip ?_ | refine AW_exit ?_ | refine AW_ret ?_)
            exact ⟨false, by simp [hinit], ⟨.refl _, .refl _, .refl _, .refl _, trivial⟩, HLe.refl _⟩
        refine AW_seq ?_
        refine AW_seq_cut (ι := Unit) (fun _ => [(2, .ptr 1 0), (4, .ptr 2 0), (7, .d (.int .i64 rule)), (9, bif b then .bm 0 l.length else .d (.sl 2 (encRes l))), (10, .d (.int .i64 ((l.length : Int) - 1)))])
          (fun _ => [bif b then .buf 2 l.length (rowR l) else .room, .row [.d (.sl 6 (encRs rs))], .row [.d (.int .i64 0), .d (.int .i64 0), .sl 2 [] .full]]) (fun _ => True) ?_ (fun _ _ => ?_)
        · cases b
          · repeat (first | refine wk hT rfl rfl ?_ | refine wd hT rfl rfl rfl ?_ | refine wz hT rfl ?_ | refine AWd_nil ?_ | refine AWk_nil ?_ | refine wh hT rfl rfl rfl rfl ?_ | refine wg hT rfl rfl rfl rfl rfl ?_ | refine AW_seq ?_ | refine AW_region ?_ | refine wx mixed ?_ | refine AW_block ?_ | refine AW_skip ?_ | refine AW_exit ?_ | refine AW_ret ?_)
            exact ⟨(), trivial, ⟨.refl _, .refl _, .refl _, .refl _, .int (by rw [hlen, wrap_id (by omega)]), trivial⟩, HLe.refl _⟩
          · repeat (first | refine wk hT rfl rfl ?_ | refine wd hT rfl rfl rfl ?_ | refine wz hT rfl ?_ | refine AWd_nil ?_ | refine AWk_nil ?_ | refine wh hT rfl rfl rfl rfl ?_ | refine wg hT rfl rfl rfl rfl rfl ?_ | refine AW_seq ?_ | refine AW_region ?_ | refine wx mixed ?_ | refine AW_block ?_ | refine AW_skip ?_ | refine AW_exit ?_ | refine AW_ret ?_)
            exact ⟨(), trivial, ⟨.refl _, .refl _, .refl _, .refl _, .int (by rw [wrap_id (by omega)]), trivial⟩, HLe.refl _⟩
        repeat (first | refine wk hT rfl rfl ?_ | refine wd hT rfl rfl rfl ?_ | refine wz hT rfl ?_ | refine AWd_nil ?_ | refine AWk_nil ?_ | refine wh hT rfl rfl rfl rfl ?_ | refine wg hT rfl rfl rfl rfl rfl ?_ | refine AW_seq ?_ | refine AW_region ?_ | refine AW_block ?_ | refine AW_skip ?_ | refine AW_exit ?_ | refine AW_ret ?_)
        refine AW_loopC (ι := Bool × Nat × List Res) (fun x => [(2, .ptr 1 0), (4, .ptr 2 0), (7, .d (.int .i64 rule)), (9, bif x.1 then .bm 0 x.2.2.length else .d (.sl 2 (encRes x.2.2))), (10, .d (.int .i64 ((x.2.1 : Int) - 1)))])
          (fun x => [bif x.1 then .buf 2 x.2.2.length (rowR x.2.2) else .room, .row [.d (.sl 6 (encRs rs))], .row [.d (.int .i64 0), .d (.int .i64 0), .sl 2 [] .full]])
          (fun x => x.2.1 ≤ x.2.2.length ∧ x.2.2.length ≤ 13 ∧ minF rs rule x.2.1 x.2.2 = fin ∧ (x.1 = true ↔ minF rs rule x.2.1 x.2.2 = x.2.2)) (fun x => x.2.1) (b, l.length, l) ⟨Nat.le_refl _, by simp only; omega, hfin, hb0⟩
          ⟨.refl _, .refl _, .refl _, .refl _, .refl _, trivial⟩ (HLe.refl _) ?_
        rintro ⟨ph, k, left⟩ ⟨i1, i2, i3, i4⟩
        simp only at i1 i2 i3 i4 ⊢
        have hll := encRes_length left
        repeat (first | refine wk hT rfl rfl ?_ | refine wd hT rfl rfl rfl ?_ | refine wz hT rfl ?_ | refine AWd_nil ?_ | refine AWk_nil ?_ | refine wh hT rfl rfl rfl rfl ?_ | refine wg hT rfl rfl rfl rfl rfl ?_ | refine AW_seq ?_ | refine AW_region ?_ | refine wx mixed ?_ | refine AW_block ?_ | refine AW_skip ?_ | refine AW_exit ?_ | refine AW_ret ?_)
        refine AW_condL rfl (fun h5 => ?_) (fun h5 => ?_)
        · obtain ⟨k, rfl⟩ : ∃ k', k = k' + 1 := ⟨k - 1, by simp at h5; omega⟩
          have hk1 : (((k + 1 : Nat) : Int) - 1) = (k : Int) := by omega
          have hwk : IntKind.i64.wrap ((k : Int) + 1) = ((k + 1 : Nat) : Int) := by rw [wrap_id (by omega)]; omega
          have hwm : IntKind.i64.wrap ((k : Int) - 1) = (k : Int) - 1 := wrap_id (by omega)
          have hle := List.length_eraseIdx_of_lt (l := left) (i := k) (by omega)
          have hel2 := encRes_length (left.eraseIdx k)
          have hen3 := hen (left.eraseIdx k) (by omega)
          have hcut := erase_cut left k hwk
          have htl : ((encRes left).take ((k : Int)).toNat).length ≤ 1000000 := by rw [List.length_take]; omega
          have hdl : ((encRes left).drop (IntKind.i64.wrap ((k : Int) + 1)).toNat).length ≤ 1000000 := by rw [List.length_drop]; omega
          have hC1 : 0 ≤ (k : Int) ∧ (k : Int) ≤ ((encRes left).length : Int) := by omega
          rw [hk1]
          cases ph
          · have hne : ¬ minF rs rule (k + 1) left = left := fun h => by have := i4.2 h; cases this
            rw [minF] at i3 hne
            simp only [cond_false]
            by_cases hadopt : forceF (left.eraseIdx k) 0 rs = rule ∧ minF rs rule k (left.eraseIdx k) = left.eraseIdx k
            · obtain ⟨ha1, ha2⟩ := hadopt
              rw [if_pos ha1] at i3
              rw [decide_eq_true ha1] at hen3
              repeat (first | refine wk hT rfl rfl ?_ | refine wd hT rfl rfl rfl ?_ | refine wz hT rfl ?_ | refine AWd_nil ?_ | refine AWk_nil ?_ | refine wh hT rfl rfl rfl rfl ?_ | refine wg hT rfl rfl rfl rfl rfl ?_ | refine AW_seq ?_ | refine AW_region ?_ | refine AW_block ?_ | refine AW_skip ?_ | refine AW_exit ?_ | refine AW_ret ?_)
              refine AW_drawG (fun i => bif Nat.beq i 4 || Nat.beq i 9 then [0] else []) (fun i => bif Nat.beq i 4 || Nat.beq i 9 then [0] else []) mixed (by kernel_rfl) ?_
              refine AWg_op (os := []) (fun k hk1 hk2 => buildSl_ok hT rfl rfl) rfl ?_
              repeat (first | refine AWg_load hT rfl rfl rfl rfl (by first | exact List.mem_cons_self | exact sm) rfl ?_ | refine AWg_pure hT (fun _ => rfl) rfl rfl (by first | exact True.intro | omega | exact sd) ?_ | refine AWg_store hT rfl rfl rfl (by first | exact List.mem_cons_self | exact sm) rfl ?_ | refine AWd_nil ?_)
              generalize hta : (encRes left).take ((k : Int)).toNat = ta at hcut htl
              generalize htb : (encRes left).drop (IntKind.i64.wrap ((k : Int) + 1)).toNat = tb at hcut hdl
              refine AWg_op (v := .bm 0 ta.length) (os := [.buf 2 ta.length (flatAV ta)]) (fun kk hk1 hk2 => bufApp0_ok (i := 0) hT rfl rfl rfl (.inl rfl) (by simp) ((hk2 0 List.mem_cons_self).trans rfl) (by rw [← hta]; rfl) (by show ta.length * (16 + 1) ≤ _; omega)) rfl ?_
              repeat (first | refine AWg_load hT rfl rfl rfl rfl (by first | exact List.mem_cons_self | exact sm) rfl ?_ | refine AWg_pure hT (fun _ => rfl) rfl rfl (by first | exact True.intro | omega | exact sd) ?_ | refine AWg_store hT rfl rfl rfl (by first | exact List.mem_cons_self | exact sm) rfl ?_ | refine AWd_nil ?_)
              refine AWg_op (v := .bm 0 (ta.length + tb.length)) (os := [.buf 2 (ta.length + tb.length) (flatAV ta ++ flatAV tb)]) (fun kk hk1 hk2 => bufApp_ok (i := 0) hT rfl rfl rfl rfl ((hk2 0 List.mem_cons_self).trans rfl) (by rw [← htb]; rfl) (by show (ta.length + tb.length) * (16 + 1) ≤ _; omega)) rfl ?_
              repeat (first | refine AWg_load hT rfl rfl rfl rfl (by first | exact List.mem_cons_self | exact sm) rfl ?_ | refine AWg_pure hT (fun _ => rfl) rfl rfl (by first | exact True.intro | omega | exact sd) ?_ | refine AWg_store hT rfl rfl rfl (by first | exact List.mem_cons_self | exact sm) rfl ?_ | refine AWd_nil ?_)
              have hn1 : ta.length + tb.length = (left.eraseIdx k).length := by rw [← hel2, hcut, List.length_append]
              have hn2 : flatAV ta ++ flatAV tb = rowR (left.eraseIdx k) := by rw [rowR, hcut]; simp [flatAV]
              refine AW_subL (l := [(2, .ptr 1 0), (4, .ptr 2 0), (7, .d (.int .i64 rule)), (10, .d (.int .i64 (k : Int))), (11, .bm 0 (left.eraseIdx k).length)])
                (h' := [.buf 2 (left.eraseIdx k).length (rowR (left.eraseIdx k)), .row [.d (.sl 6 (encRs rs))], .row [.d (.int .i64 0), .d (.int .i64 0), .sl 2 [] .full]]) ⟨.refl _, .refl _, .refl _, .refl _, .eq (by rw [← hn1]; rfl), trivial⟩ ⟨⟨rfl, hn1, AllLe.of_eq hn2⟩, ObLe.refl _, ObLe.refl _, trivial⟩ ?_
              repeat (first | refine wk hT rfl rfl ?_ | refine wd hT rfl rfl rfl ?_ | refine wz hT rfl ?_ | refine AWd_nil ?_ | refine AWk_nil ?_ | refine wh hT rfl rfl rfl rfl ?_ | refine wg hT rfl rfl rfl rfl rfl ?_ | refine AW_seq ?_ | refine AW_region ?_ | refine wx mixed ?_ | refine AW_block ?_ | refine AW_skip ?_ | refine AW_exit ?_ | refine AW_ret ?_)
              refine AWk_op (callS1 rfl rfl (Spec.tmp (n := (left.eraseIdx k).length) (sz := 2) (es := encRes (left.eraseIdx k)) (cells := rowR (left.eraseIdx k)) (args := [.agg [.d (.sl 6 (encRs rs))], .bm 0 (left.eraseIdx k).length, .d (.int .i64 rule)]) (by
                  have : fzL (left.eraseIdx k).length 2 (encRes (left.eraseIdx k)) [.agg [.d (.sl 6 (encRs rs))], .bm 0 (left.eraseIdx k).length, .d (.int .i64 rule)] = [.agg [.d (.sl 6 (encRs rs))], .d (.sl 2 (encRes (left.eraseIdx k))), .d (.int .i64 rule)] := by simp [fzL, fzA]
                  rw [this]; exact hen3) hel2 (by have := RowDat_row (left.eraseIdx k) []; rwa [List.append_nil] at this) bool_any rfl ((Bool.and_true _).trans (lowL_row 1 _))) [0] (by decide) rfl rfl rfl ((Bool.and_true _).trans (lowL_row 0 _)) ((Bool.and_true _).trans (lowL_row 0 _)) rfl rfl) rfl ?_
              repeat (first | refine wk hT rfl rfl ?_ | refine wd hT rfl rfl rfl ?_ | refine wz hT rfl ?_ | refine AWd_nil ?_ | refine AWk_nil ?_ | refine wh hT rfl rfl rfl rfl ?_ | refine wg hT rfl rfl rfl rfl rfl ?_ | refine AW_seq ?_ | refine AW_region ?_ | refine wx mixed ?_ | refine AW_block ?_ | refine AW_skip ?_ | refine AW_exit ?_ | refine AW_ret ?_)
              refine AW_condL rfl (fun h6 => ?_) (fun h6 => ?_)
              · repeat (first | refine wk hT rfl rfl ?_ | refine wd hT rfl rfl rfl ?_ | refine wz hT rfl ?_ | refine AWd_nil ?_ | refine AWk_nil ?_ | refine wh hT rfl rfl rfl rfl ?_ | refine wg hT rfl rfl rfl rfl rfl ?_ | refine AW_seq ?_ | refine AW_region ?_ | refine wx mixed ?_ | refine AW_block ?_ | refine AW_skip ?_ | refine AW_exit ?_ | refine AW_ret ?_)
                exact ⟨(true, k, left.eraseIdx k), [], ⟨by simp only; omega, by simp only; omega, i3, by simp [ha2]⟩, by simp only; omega, ⟨.refl _, .refl _, .refl _, .refl _, .int hwm, trivial⟩, HLe.refl _, Env.below_mono hE (by simp), rfl, by simp only [lowH, lowO, lowL_row, cond_true]; rfl⟩
              · cases h6
            · refine AW_skip (AW_room ?_)
              repeat (first | refine wk hT rfl rfl ?_ | refine wd hT rfl rfl rfl ?_ | refine wz hT rfl ?_ | refine AWd_nil ?_ | refine AWk_nil ?_ | refine wh hT rfl rfl rfl rfl ?_ | refine wg hT rfl rfl rfl rfl rfl ?_ | refine AW_seq ?_ | refine AW_region ?_ | refine AW_block ?_ | refine AW_skip ?_ | refine AW_exit ?_ | refine AW_ret ?_)
              refine AW_drawG (fun i => bif Nat.beq i 4 || Nat.beq i 9 then [3] else []) (fun i => bif Nat.beq i 4 || Nat.beq i 9 then [3] else []) mixed (by kernel_rfl) ?_
              refine AWg_op (os := []) (fun k hk1 hk2 => buildSl_ok hT rfl rfl) rfl ?_
              repeat (first | refine AWg_load hT rfl rfl rfl rfl (by first | exact List.mem_cons_self | exact sm) rfl ?_ | refine AWg_pure hT (fun _ => rfl) rfl rfl (by first | exact True.intro | omega | exact sd) ?_ | refine AWg_store hT rfl rfl rfl (by first | exact List.mem_cons_self | exact sm) rfl ?_ | refine AWd_nil ?_)
              generalize hta : (encRes left).take ((k : Int)).toNat = ta at hcut htl
              generalize htb : (encRes left).drop (IntKind.i64.wrap ((k : Int) + 1)).toNat = tb at hcut hdl
              refine AWg_op (v := .sl 2 ta (.right 3)) (os := [.right 2 ta.length]) (fun kk hk1 hk2 => append_room0 (i := 3) hT rfl rfl rfl (.inl rfl) (by simp) ((hk2 3 List.mem_cons_self).trans rfl) (by rw [← hta]; rfl) (by show ta.length * (16 + 1) ≤ _; omega)) rfl ?_
              repeat (first | refine AWg_load hT rfl rfl rfl rfl (by first | exact List.mem_cons_self | exact sm) rfl ?_ | refine AWg_pure hT (fun _ => rfl) rfl rfl (by first | exact True.intro | omega | exact sd) ?_ | refine AWg_store hT rfl rfl rfl (by first | exact List.mem_cons_self | exact sm) rfl ?_ | refine AWd_nil ?_)
              refine AWg_op (v := .sl 2 (ta ++ tb) (.right 3)) (os := [.right 2 (ta ++ tb).length]) (fun kk hk1 hk2 => append_rightL (i := 3) hT rfl rfl rfl rfl ((hk2 3 List.mem_cons_self).trans rfl) (by rw [← htb]; rfl) (by show (ta.length + tb.length) * (16 + 1) ≤ _; omega)) rfl ?_
              rw [← hcut]
              repeat (first | refine AWg_load hT rfl rfl rfl rfl (by first | exact List.mem_cons_self | exact sm) rfl ?_ | refine AWg_pure hT (fun _ => rfl) rfl rfl (by first | exact True.intro | omega | exact sd) ?_ | refine AWg_store hT rfl rfl rfl (by first | exact List.mem_cons_self | exact sm) rfl ?_ | refine AWd_nil ?_)
              refine AW_subL (l := [(2, .ptr 1 0), (4, .ptr 2 0), (7, .d (.int .i64 rule)), (9, .d (.sl 2 (encRes left))), (10, .d (.int .i64 (k : Int))), (11, .d (.sl 2 (encRes (left.eraseIdx k))))])
                (h' := [.room, .row [.d (.sl 6 (encRs rs))], .row [.d (.int .i64 0), .d (.int .i64 0), .sl 2 [] .full], .right 2 (encRes (left.eraseIdx k)).length]) ⟨.refl _, .refl _, .refl _, .refl _, .refl _, .dat, trivial⟩ (HLe.refl _) ?_
              repeat (first | refine wk hT rfl rfl ?_ | refine wd hT rfl rfl rfl ?_ | refine wz hT rfl ?_ | refine AWd_nil ?_ | refine AWk_nil ?_ | refine wh hT rfl rfl rfl rfl ?_ | refine wg hT rfl rfl rfl rfl rfl ?_ | refine AW_seq ?_ | refine AW_region ?_ | refine wx mixed ?_ | refine AW_block ?_ | refine AW_skip ?_ | refine AW_exit ?_ | refine AW_ret ?_)
              first | refine AWk_op (callS0 rfl rfl (hen3) rfl rfl rfl) rfl ?_ | refine AWd_op (callS0 rfl rfl (hen3) rfl rfl rfl) rfl rfl ?_ | refine AWk_op (callS0L rfl rfl (hen3) rfl (by repeat (first | exact trivial | exact AV.le.refl _ | exact AV.le.dat | exact AV.le.nils | exact AV.le.nilsf | exact AV.le.any _ | exact ObLe.refl _ | exact ⟨rfl, rfl⟩ | refine AV.le.tup ?_ | refine AV.le.agg ?_ | exact li | exact lb | exact ls | exact lk | exact ld | exact lz | refine ⟨?_, ?_⟩)) rfl rfl) rfl ?_ | refine AWd_op (callS0L rfl rfl (hen3) rfl (by repeat (first | exact trivial | exact AV.le.refl _ | exact AV.le.dat | exact AV.le.nils | exact AV.le.nilsf | exact AV.le.any _ | exact ObLe.refl _ | exact ⟨rfl, rfl⟩ | refine AV.le.tup ?_ | refine AV.le.agg ?_ | exact li | exact lb | exact ls | exact lk | exact ld | exact lz | refine ⟨?_, ?_⟩)) rfl rfl) rfl rfl ?_
              repeat (first | refine wk hT rfl rfl ?_ | refine wd hT rfl rfl rfl ?_ | refine wz hT rfl ?_ | refine AWd_nil ?_ | refine AWk_nil ?_ | refine wh hT rfl rfl rfl rfl ?_ | refine wg hT rfl rfl rfl rfl rfl ?_ | refine AW_seq ?_ | refine AW_region ?_ | refine wx mixed ?_ | refine AW_block ?_ | refine AW_skip ?_ | refine AW_exit ?_ | refine AW_ret ?_)
              refine AW_condL rfl (fun h6 => ?_) (fun h6 => ?_)
              · have h6' := of_decide_eq_true h6
                rw [if_pos h6'] at i3
                have hne2 : ¬ minF rs rule k (left.eraseIdx k) = left.eraseIdx k := fun h => hadopt ⟨h6', h⟩
                repeat (first | refine wk hT rfl rfl ?_ | refine wd hT rfl rfl rfl ?_ | refine wz hT rfl ?_ | refine AWd_nil ?_ | refine AWk_nil ?_ | refine wh hT rfl rfl rfl rfl ?_ | refine wg hT rfl rfl rfl rfl rfl ?_ | refine AW_seq ?_ | refine AW_region ?_ | refine wx mixed ?_ | refine AW_block ?_ | refine AW_skip ?_ | refine AW_exit ?_ | refine AW_ret ?_)
                exact ⟨(false, k, left.eraseIdx k), [_], ⟨by simp only; omega, by simp only; omega, i3, by simp [hne2]⟩, by simp only; omega, ⟨.refl _, .refl _, .refl _, .refl _, .int hwm, trivial⟩, HLe.refl _, Env.below_mono hE (by simp), rfl, rfl⟩
              · have h6' := of_decide_eq_false h6
                rw [if_neg h6'] at i3 hne
                repeat (first | refine wk hT rfl rfl ?_ | refine wd hT rfl rfl rfl ?_ | refine wz hT rfl ?_ | refine AWd_nil ?_ | refine AWk_nil ?_ | refine wh hT rfl rfl rfl rfl ?_ | refine wg hT rfl rfl rfl rfl rfl ?_ | refine AW_seq ?_ | refine AW_region ?_ | refine wx mixed ?_ | refine AW_block ?_ | refine AW_skip ?_ | refine AW_exit ?_ | refine AW_ret ?_)
                exact ⟨(false, k, left), [_], ⟨by simp only; omega, i2, i3, by simp [hne]⟩, by simp only; omega, ⟨.refl _, .refl _, .refl _, .refl _, .int hwm, trivial⟩, HLe.refl _, Env.below_mono hE (by simp), rfl, rfl⟩
          · obtain ⟨hs1, hs2⟩ := minF_stay (by omega) (i4.1 rfl)
            have hi3 : left = fin := by rw [← i3]; exact (i4.1 rfl).symm
            rw [decide_eq_false hs1] at hen3
            simp only [cond_true]
            refine AW_skip (AW_seq (AW_lend [(2, .ptr 1 0), (4, .ptr 2 0), (7, .d (.int .i64 rule)), (9, .sl 2 (encRes left) (.right 0)), (10, .d (.int .i64 (k : Int)))] [(2, .ptr 1 0), (4, .ptr 2 0), (7, .d (.int .i64 rule)), (9, .bm 0 left.length), (10, .d (.int .i64 (k : Int)))]
              9 0 (encRes left) rfl rfl hll (by have := RowDat_row left []; rwa [List.append_nil] at this) ⟨rfl, .ptr rfl, rfl, .ptr rfl, rfl, .int, rfl, .bm rfl hll, rfl, .int, trivial⟩ (fun E' hL => ?_) ?_))
            · have hL1 := hL 1 _ rfl
              refine AW_subL (l := [(2, .ptr 1 0), (4, .ptr 2 0), (7, .d (.int .i64 rule)), (9, .sl 2 (encRes left) (.right 0)), (10, .d (.int .i64 (k : Int)))]) (h' := [.dead, .dead, .dead]) ⟨.refl _, .refl _, .refl _, .refl _, .refl _, trivial⟩ (HLe.refl _) ?_
              refine AW_room ?_
              repeat (first | refine wk hT rfl rfl ?_ | refine wd hT rfl rfl rfl ?_ | refine wz hT rfl ?_ | refine AWd_nil ?_ | refine AWk_nil ?_ | refine wh hT rfl rfl rfl rfl ?_ | refine wg hT rfl rfl rfl rfl rfl ?_ | refine AW_seq ?_ | refine AW_region ?_ | refine AW_block ?_ | refine AW_skip ?_ | refine AW_exit ?_ | refine AW_ret ?_)
              refine AW_drawG (fun i => bif Nat.beq i 4 || Nat.beq i 9 then [3] else []) (fun i => bif Nat.beq i 4 || Nat.beq i 9 then [3] else []) mixed (by kernel_rfl) ?_
              refine AWg_op (os := []) (fun k hk1 hk2 => buildSl_ok hT rfl rfl) rfl ?_
              repeat (first | refine AWg_load hT rfl rfl rfl rfl (by first | exact List.mem_cons_self | exact sm) rfl ?_ | refine AWg_pure hT (fun _ => rfl) rfl rfl (by first | exact True.intro | omega | exact sd) ?_ | refine AWg_store hT rfl rfl rfl (by first | exact List.mem_cons_self | exact sm) rfl ?_ | refine AWd_nil ?_)
              generalize hta : (encRes left).take ((k : Int)).toNat = ta at hcut htl
              generalize htb : (encRes left).drop (IntKind.i64.wrap ((k : Int) + 1)).toNat = tb at hcut hdl
              refine AWg_op (v := .sl 2 ta (.right 3)) (os := [.right 2 ta.length]) (fun kk hk1 hk2 => append_room0 (i := 3) hT rfl rfl rfl (.inl rfl) (by simp) ((hk2 3 List.mem_cons_self).trans rfl) (by rw [← hta]; rfl) (by show ta.length * (16 + 1) ≤ _; omega)) rfl ?_
              repeat (first | refine AWg_load hT rfl rfl rfl rfl (by first | exact List.mem_cons_self | exact sm) rfl ?_ | refine AWg_pure hT (fun _ => rfl) rfl rfl (by first | exact True.intro | omega | exact sd) ?_ | refine AWg_store hT rfl rfl rfl (by first | exact List.mem_cons_self | exact sm) rfl ?_ | refine AWd_nil ?_)
              refine AWg_op (v := .sl 2 (ta ++ tb) (.right 3)) (os := [.right 2 (ta ++ tb).length]) (fun kk hk1 hk2 => append_rightL (i := 3) hT rfl rfl rfl rfl ((hk2 3 List.mem_cons_self).trans rfl) (by rw [← htb]; rfl) (by show (ta.length + tb.length) * (16 + 1) ≤ _; omega)) rfl ?_
              rw [← hcut]
              repeat (first | refine AWg_load hT rfl rfl rfl rfl (by first | exact List.mem_cons_self | exact sm) rfl ?_ | refine AWg_pure hT (fun _ => rfl) rfl rfl (by first | exact True.intro | omega | exact sd) ?_ | refine AWg_store hT rfl rfl rfl (by first | exact List.mem_cons_self | exact sm) rfl ?_ | refine AWd_nil ?_)
              refine AW_subL (l := [(2, .ptr 1 0), (4, .ptr 2 0), (7, .d (.int .i64 rule)), (9, .sl 2 (encRes left) (.right 0)), (10, .d (.int .i64 (k : Int))), (11, .d (.sl 2 (encRes (left.eraseIdx k))))])
                (h' := [.dead, .dead, .dead, .dead]) ⟨.refl _, .refl _, .refl _, .refl _, .refl _, .dat, trivial⟩ ⟨trivial, trivial, trivial, trivial, trivial⟩ ?_
              repeat (first | refine wk hT rfl rfl ?_ | refine wd hT rfl rfl rfl ?_ | refine wz hT rfl ?_ | refine AWd_nil ?_ | refine AWk_nil ?_ | refine wh hT rfl rfl rfl rfl ?_ | refine wg hT rfl rfl rfl rfl rfl ?_ | refine AW_seq ?_ | refine AW_region ?_ | refine wx mixed ?_ | refine AW_block ?_ | refine AW_skip ?_ | refine AW_exit ?_ | refine AW_ret ?_)
              refine AWk_op (lent_load hT rfl rfl hL1 rfl) rfl ?_
              repeat (first | refine wk hT rfl rfl ?_ | refine wd hT rfl rfl rfl ?_ | refine wz hT rfl ?_ | refine AWd_nil ?_ | refine AWk_nil ?_ | refine wh hT rfl rfl rfl rfl ?_ | refine wg hT rfl rfl rfl rfl rfl ?_ | refine AW_seq ?_ | refine AW_region ?_ | refine wx mixed ?_ | refine AW_block ?_ | refine AW_skip ?_ | refine AW_exit ?_ | refine AW_ret ?_)
              first | refine AWk_op (callS0 rfl rfl (hen3) rfl rfl rfl) rfl ?_ | refine AWd_op (callS0 rfl rfl (hen3) rfl rfl rfl) rfl rfl ?_ | refine AWk_op (callS0L rfl rfl (hen3) rfl (by repeat (first | exact trivial | exact AV.le.refl _ | exact AV.le.dat | exact AV.le.nils | exact AV.le.nilsf | exact AV.le.any _ | exact ObLe.refl _ | exact ⟨rfl, rfl⟩ | refine AV.le.tup ?_ | refine AV.le.agg ?_ | exact li | exact lb | exact ls | exact lk | exact ld | exact lz | refine ⟨?_, ?_⟩)) rfl rfl) rfl ?_ | refine AWd_op (callS0L rfl rfl (hen3) rfl (by repeat (first | exact trivial | exact AV.le.refl _ | exact AV.le.dat | exact AV.le.nils | exact AV.le.nilsf | exact AV.le.any _ | exact ObLe.refl _ | exact ⟨rfl, rfl⟩ | refine AV.le.tup ?_ | refine AV.le.agg ?_ | exact li | exact lb | exact ls | exact lk | exact ld | exact lz | refine ⟨?_, ?_⟩)) rfl rfl) rfl rfl ?_
              repeat (first | refine wk hT rfl rfl ?_ | refine wd hT rfl rfl rfl ?_ | refine wz hT rfl ?_ | refine AWd_nil ?_ | refine AWk_nil ?_ | refine wh hT rfl rfl rfl rfl ?_ | refine wg hT rfl rfl rfl rfl rfl ?_ | refine AW_seq ?_ | refine AW_region ?_ | refine wx mixed ?_ | refine AW_block ?_ | refine AW_skip ?_ | refine AW_exit ?_ | refine AW_ret ?_)
              refine AW_condL rfl (fun h6 => ?_) (fun h6 => ?_)
              · cases h6
              · repeat (first | refine wk hT rfl rfl ?_ | refine wd hT rfl rfl rfl ?_ | refine wz hT rfl ?_ | refine AWd_nil ?_ | refine AWk_nil ?_ | refine wh hT rfl rfl rfl rfl ?_ | refine wg hT rfl rfl rfl rfl rfl ?_ | refine AW_seq ?_ | refine AW_region ?_ | refine wx mixed ?_ | refine AW_block ?_ | refine AW_skip ?_ | refine AW_exit ?_ | refine AW_ret ?_)
                exact ⟨rfl, ⟨.refl _, .refl _, .refl _, .refl _, .refl _, trivial⟩⟩
            · repeat (first | refine wk hT rfl rfl ?_ | refine wd hT rfl rfl rfl ?_ | refine wz hT rfl ?_ | refine AWd_nil ?_ | refine AWk_nil ?_ | refine wh hT rfl rfl rfl rfl ?_ | refine wg hT rfl rfl rfl rfl rfl ?_ | refine AW_seq ?_ | refine AW_region ?_ | refine wx mixed ?_ | refine AW_block ?_ | refine AW_skip ?_ | refine AW_exit ?_ | refine AW_ret ?_)
              exact ⟨(true, k, left), [], ⟨by simp only; omega, i2, by rw [hs2]; exact hi3, by simp [hs2]⟩, by simp only; omega, ⟨.refl _, .refl _, .refl _, .refl _, .int hwm, trivial⟩, HLe.refl _, Env.below_mono hE (by simp), rfl, by simp only [lowH, lowO, lowL_row, cond_true]; rfl⟩
        · have hk0 : k = 0 := by simp at h5; omega
          subst hk0
          rw [minF] at i3 i4
          subst i3
          have hph : ph = true := by simpa using i4
          subst hph
          simp only [cond_true]
          repeat (first | refine wk hT rfl rfl ?_ | refine wd hT rfl rfl rfl ?_ | refine wz hT rfl ?_ | refine AWd_nil ?_ | refine AWk_nil ?_ | refine wh hT rfl rfl rfl rfl ?_ | refine wg hT rfl rfl rfl rfl rfl ?_ | refine AW_seq ?_ | refine AW_region ?_ | refine wx mixed ?_ | refine AW_block ?_ | refine AW_skip ?_ | refine AW_exit ?_ | refine AW_ret ?_)
          first | refine AWk_op (callS0 rfl rfl (hvd) rfl rfl rfl) rfl ?_ | refine AWd_op (callS0 rfl rfl (hvd) rfl rfl rfl) rfl rfl ?_ | refine AWk_op (callS0L rfl rfl (hvd) rfl (by repeat (first | exact trivial | exact AV.le.refl _ | exact AV.le.dat | exact AV.le.nils | exact AV.le.nilsf | exact AV.le.any _ | exact ObLe.refl _ | exact ⟨rfl, rfl⟩ | refine AV.le.tup ?_ | refine AV.le.agg ?_ | exact li | exact lb | exact ls | exact lk | exact ld | exact lz | refine ⟨?_, ?_⟩)) rfl rfl) rfl ?_ | refine AWd_op (callS0L rfl rfl (hvd) rfl (by repeat (first | exact trivial | exact AV.le.refl _ | exact AV.le.dat | exact AV.le.nils | exact AV.le.nilsf | exact AV.le.any _ | exact ObLe.refl _ | exact ⟨rfl, rfl⟩ | refine AV.le.tup ?_ | refine AV.le.agg ?_ | exact li | exact lb | exact ls | exact lk | exact ld | exact lz | refine ⟨?_, ?_⟩)) rfl rfl) rfl rfl ?_
          repeat (first | refine wk hT rfl rfl ?_ | refine wd hT rfl rfl rfl ?_ | refine wz hT rfl ?_ | refine AWd_nil ?_ | refine AWk_nil ?_ | refine wh hT rfl rfl rfl rfl ?_ | refine wg hT rfl rfl rfl rfl rfl ?_ | refine AW_seq ?_ | refine AW_region ?_ | refine wx mixed ?_ | refine AW_block ?_ | refine AW_skip ?_ | refine AW_exit ?_ | refine AW_ret ?_)
          exact rq ⟨rfl, rfl⟩ rfl (.refl _) (h6 := (Bool.and_true _).trans (lowL_row _ _))
end Tdoc
/- DecisionMade: always true. -/
set_option linter.unusedVariables false
set_option linter.unusedSimpArgs false
namespace Tdoc
open Go Go.Proofs

theorem rowR_set1 : ∀ (l : List Res) (k : Nat) (x : Int), (rowR l).set (k * 2 + 1) (.d (.int .i64 x)) = rowR (l.set k (((l[k]?).getD (0, 0)).1, x))
  | [], k, x => by simp [rowR, flatAV, encRes]
  | a :: l, 0, x => by simp [rowR_cons]
  | a :: l, k + 1, x => by
    have ih := rowR_set1 l k x
    rw [rowR_cons, List.set_cons_succ, rowR_cons, List.getElem?_cons_succ, ← ih]
    rw [show (k + 1) * 2 + 1 = k * 2 + 1 + 1 + 1 by omega]
    simp

set_option maxHeartbeats 8000000 in
set_option maxRecDepth 100000 in
theorem decisionMade_spec (l rl : List Int) (what at_ by_ : Int) :
    Spec Tryz.prog 3 [.d (.sl 1 (numsD .i64 l)), .d (.sl 1 (numsD .i64 rl)), .d (.int .i64 what), .d (.int .i64 at_), .d (.int .i64 by_)] [] (fun r h' => r = .d (.bool true) ∧ h' = []) := by
  have haw := awake38_spec
  have hL1 := Light_spec l
  have hL2 := Light_spec rl
  have hv := polM_valid l
  have hsm : ∀ r, r ∈ polM l → smallC (condR r) := fun r hr => (polM_ok l r hr).2
  have hpl := polM_length l
  have hrr := resM_nat rl
  have hpo := fun h => Policy_spec l h
  have hre := fun h => Results_spec rl h
  generalize polM l = rs at *
  generalize resM rl 13 = rr at *
  have hd := Decide_spec rs rr (by have := hrr.1; omega) (by omega) hsm
  have hdo := DecideRO_spec rs rr hv hrr hsm
  have q0 : (decideF rs rr).2 = 0 := by rw [decideF_ok hv hrr]
  have q1 := decide_expl hv hrr
  have q2 := decide_textOk hv hrr
  have q5 := decide_proper hv hrr
  generalize decideF rs rr = D at *
  obtain ⟨⟨v, rule, us⟩, n⟩ := D
  simp only at q0 q1 q2 q5 hd hdo
  subst q0
  have hul := proper_len us 0 (by omega) q5
  simp only [show (0 : Int) ≤ 13 from by omega, if_true] at hul
  have hq2 := q2
  unfold textOk at hq2
  simp only [Bool.and_eq_true, decide_eq_true_eq] at hq2
  have hx := Explains_spec rs ⟨v, rule, us⟩ (by simp only; omega) (by omega) hsm
  rw [q1] at hx
  have hX := fun (d : Decn) h => Explains_spec rs d h (by omega) hsm
  have hXR := fun (d : Decn) h => ExplainsR_spec rs d h (by omega) hsm
  have hs := Same_spec ⟨v, rule, us⟩ ⟨v, rule, us⟩ (by simp only; omega) (by simp only; omega)
  simp only [decide_true, Bool.and_self] at hs
  have hulen := encRes_length us
  have hk := Mod_spec at_ (us.length : Int) (by omega)
  have hw := Mod_spec what 5 (by omega)
  have h3 := Mod_spec by_ 3 (by omega)
  have h4 := Mod_spec by_ 4 (by omega)
  have h15 := Mod_spec by_ 15 (by omega)
  have r3 := modP_range (x := by_) (n := 3) (by omega)
  have r4 := modP_range (x := by_) (n := 4) (by omega)
  have r15 := modP_range (x := by_) (n := 15) (by omega)
  have rk : 0 < us.length → 0 ≤ modP at_ us.length ∧ modP at_ us.length < us.length := fun h => modP_range (by omega)
  generalize modP at_ (us.length : Int) = kk at hk rk
  generalize modP what 5 = w at hw
  generalize modP by_ 3 = b3 at h3 r3
  generalize modP by_ 4 = b4 at h4 r4
  generalize modP by_ 15 = b15 at h15 r15
  unfold decAV decCells at *
  simp only at *
  unfold polAV at *
  generalize encRs rs = rp at *
  generalize hnl : numsD .i64 l = nl at *
  generalize hnr : numsD .i64 rl = nr at *
  have hRD : RowDat (rowR us) 0 2 (encRes us) := by have := RowDat_row us []; rwa [List.append_nil] at this
  have hs2 : Spec Tryz.prog 12 [.agg [.d (.int .i64 v), .d (.int .i64 rule), .d (.sl 2 (encRes us))], .agg [.d (.int .i64 v), .d (.int .i64 rule), .bm 0 us.length]] [.buf 2 us.length (rowR us)] (fun r h' => r = .d (.bool true) ∧ h' = [.buf 2 us.length (rowR us)]) :=
    Spec.tmp (n := us.length) (sz := 2) (es := encRes us) (cells := rowR us) (by
      have : fzL us.length 2 (encRes us) [.agg [.d (.int .i64 v), .d (.int .i64 rule), .d (.sl 2 (encRes us))], .agg [.d (.int .i64 v), .d (.int .i64 rule), .bm 0 us.length]] = [.agg [.d (.int .i64 v), .d (.int .i64 rule), .d (.sl 2 (encRes us))], .agg [.d (.int .i64 v), .d (.int .i64 rule), .d (.sl 2 (encRes us))]] := by simp [fzL, fzA]
      rw [this]; exact hs) hulen hRD bool_any rfl ((Bool.and_true _).trans (lowL_row 1 _))
  refine Spec_of_body hT Tryz.func3 rfl rfl rfl rfl ?_
  intro E hE
  refine AW_room ?_
  repeat (first | refine wk hT rfl rfl ?_ | refine wd hT rfl rfl rfl ?_ | refine wz hT rfl ?_ | refine AWd_nil ?_ | refine AWk_nil ?_ | refine wh hT rfl rfl rfl rfl ?_ | refine wg hT rfl rfl rfl rfl rfl ?_ | refine AW_seq ?_ | refine AW_region ?_ | refine wx mixed ?_ | refine AW_block ?_ | refine AW_skip ?_ | refine AW_exit ?_ | refine AW_ret ?_)
  first | refine AWk_op (callS0 rfl rfl (hL1) rfl rfl rfl) rfl ?_ | refine AWd_op (callS0 rfl rfl (hL1) rfl rfl rfl) rfl rfl ?_ | refine AWk_op (callS0L rfl rfl (hL1) rfl (by repeat (first | exact trivial | exact AV.le.refl _ | exact AV.le.dat | exact AV.le.nils | exact AV.le.nilsf | exact AV.le.any _ | exact ObLe.refl _ | exact ⟨rfl, rfl⟩ | refine AV.le.tup ?_ | refine AV.le.agg ?_ | exact li | exact lb | exact ls | exact lk | exact ld | exact lz | refine ⟨?_, ?_⟩)) rfl rfl) rfl ?_ | refine AWd_op (callS0L rfl rfl (hL1) rfl (by repeat (first | exact trivial | exact AV.le.refl _ | exact AV.le.dat | exact AV.le.nils | exact AV.le.nilsf | exact AV.le.any _ | exact ObLe.refl _ | exact ⟨rfl, rfl⟩ | refine AV.le.tup ?_ | refine AV.le.agg ?_ | exact li | exact lb | exact ls | exact lk | exact ld | exact lz | refine ⟨?_, ?_⟩)) rfl rfl) rfl rfl ?_
  repeat (first | refine wk hT rfl rfl ?_ | refine wd hT rfl rfl rfl ?_ | refine wz hT rfl ?_ | refine AWd_nil ?_ | refine AWk_nil ?_ | refine wh hT rfl rfl rfl rfl ?_ | refine wg hT rfl rfl rfl rfl rfl ?_ | refine AW_seq ?_ | refine AW_region ?_ | refine wx mixed ?_ | refine AW_block ?_ | refine AW_skip ?_ | refine AW_exit ?_ | refine AW_ret ?_)
  first | refine AWk_gop rfl rfl rfl (fun hg => ⟨(sg (C := True) hg).1, callS0 rfl rfl (hL2) rfl rfl rfl⟩) ?_ | refine AWd_gop rfl rfl rfl rfl (fun hg => ⟨(sg (C := True) hg).1, callS0 rfl rfl (hL2) rfl rfl rfl⟩) ?_
  repeat (first | refine wk hT rfl rfl ?_ | refine wd hT rfl rfl rfl ?_ | refine wz hT rfl ?_ | refine AWd_nil ?_ | refine AWk_nil ?_ | refine wh hT rfl rfl rfl rfl ?_ | refine wg hT rfl rfl rfl rfl rfl ?_ | refine AW_seq ?_ | refine AW_region ?_ | refine wx mixed ?_ | refine AW_block ?_ | refine AW_skip ?_ | refine AW_exit ?_ | refine AW_ret ?_)
  refine AW_condL rfl (fun h1 => ?_) (fun h1 => ?_)
  · repeat (first | refine wk hT rfl rfl ?_ | refine wd hT rfl rfl rfl ?_ | refine wz hT rfl ?_ | refine AWd_nil ?_ | refine AWk_nil ?_ | refine wh hT rfl rfl rfl rfl ?_ | refine wg hT rfl rfl rfl rfl rfl ?_ | refine AW_seq ?_ | refine AW_region ?_ | refine wx mixed ?_ | refine AW_block ?_ | refine AW_skip ?_ | refine AW_exit ?_ | refine AW_ret ?_)
    first | refine AWk_op (callS0 rfl rfl (haw) rfl rfl rfl) rfl ?_ | refine AWd_op (callS0 rfl rfl (haw) rfl rfl rfl) rfl rfl ?_ | refine AWk_op (callS0L rfl rfl (haw) rfl (by repeat (first | exact trivial | exact AV.le.refl _ | exact AV.le.dat | exact AV.le.nils | exact AV.le.nilsf | exact AV.le.any _ | exact ObLe.refl _ | exact ⟨rfl, rfl⟩ | refine AV.le.tup ?_ | refine AV.le.agg ?_ | exact li | exact lb | exact ls | exact lk | exact ld | exact lz | refine ⟨?_, ?_⟩)) rfl rfl) rfl ?_ | refine AWd_op (callS0L rfl rfl (haw) rfl (by repeat (first | exact trivial | exact AV.le.refl _ | exact AV.le.dat | exact AV.le.nils | exact AV.le.nilsf | exact AV.le.any _ | exact ObLe.refl _ | exact ⟨rfl, rfl⟩ | refine AV.le.tup ?_ | refine AV.le.agg ?_ | exact li | exact lb | exact ls | exact lk | exact ld | exact lz | refine ⟨?_, ?_⟩)) rfl rfl) rfl rfl ?_
    repeat (first | refine wk hT rfl rfl ?_ | refine wd hT rfl rfl rfl ?_ | refine wz hT rfl ?_ | refine AWd_nil ?_ | refine AWk_nil ?_ | refine wh hT rfl rfl rfl rfl ?_ | refine wg hT rfl rfl rfl rfl rfl ?_ | refine AW_seq ?_ | refine AW_region ?_ | refine wx mixed ?_ | refine AW_block ?_ | refine AW_skip ?_ | refine AW_exit ?_ | refine AW_ret ?_)
    exact rq ⟨rfl, rfl⟩ rfl (.refl _)
  · have h1' : l.length ≤ 80 ∧ rl.length ≤ 80 := by simp at h1; omega
    have hpo := hpo (by omega)
    have hre := hre (by omega)
    repeat (first | refine wk hT rfl rfl ?_ | refine wd hT rfl rfl rfl ?_ | refine wz hT rfl ?_ | refine AWd_nil ?_ | refine AWk_nil ?_ | refine wh hT rfl rfl rfl rfl ?_ | refine wg hT rfl rfl rfl rfl rfl ?_ | refine AW_seq ?_ | refine AW_region ?_ | refine wx mixed ?_ | refine AW_block ?_ | refine AW_skip ?_ | refine AW_exit ?_ | refine AW_ret ?_)
    first | refine AWk_op (callS0 rfl rfl (hpo) rfl rfl rfl) rfl ?_ | refine AWd_op (callS0 rfl rfl (hpo) rfl rfl rfl) rfl rfl ?_ | refine AWk_op (callS0L rfl rfl (hpo) rfl (by repeat (first | exact trivial | exact AV.le.refl _ | exact AV.le.dat | exact AV.le.nils | exact AV.le.nilsf | exact AV.le.any _ | exact ObLe.refl _ | exact ⟨rfl, rfl⟩ | refine AV.le.tup ?_ | refine AV.le.agg ?_ | exact li | exact lb | exact ls | exact lk | exact ld | exact lz | refine ⟨?_, ?_⟩)) rfl rfl) rfl ?_ | refine AWd_op (callS0L rfl rfl (hpo) rfl (by repeat (first | exact trivial | exact AV.le.refl _ | exact AV.le.dat | exact AV.le.nils | exact AV.le.nilsf | exact AV.le.any _ | exact ObLe.refl _ | exact ⟨rfl, rfl⟩ | refine AV.le.tup ?_ | refine AV.le.agg ?_ | exact li | exact lb | exact ls | exact lk | exact ld | exact lz | refine ⟨?_, ?_⟩)) rfl rfl) rfl rfl ?_
    repeat (first | refine wk hT rfl rfl ?_ | refine wd hT rfl rfl rfl ?_ | refine wz hT rfl ?_ | refine AWd_nil ?_ | refine AWk_nil ?_ | refine wh hT rfl rfl rfl rfl ?_ | refine wg hT rfl rfl rfl rfl rfl ?_ | refine AW_seq ?_ | refine AW_region ?_ | refine wx mixed ?_ | refine AW_block ?_ | refine AW_skip ?_ | refine AW_exit ?_ | refine AW_ret ?_)
    first | refine AWk_op (callS0 rfl rfl (hre) rfl rfl rfl) rfl ?_ | refine AWd_op (callS0 rfl rfl (hre) rfl rfl rfl) rfl rfl ?_ | refine AWk_op (callS0L rfl rfl (hre) rfl (by repeat (first | exact trivial | exact AV.le.refl _ | exact AV.le.dat | exact AV.le.nils | exact AV.le.nilsf | exact AV.le.any _ | exact ObLe.refl _ | exact ⟨rfl, rfl⟩ | refine AV.le.tup ?_ | refine AV.le.agg ?_ | exact li | exact lb | exact ls | exact lk | exact ld | exact lz | refine ⟨?_, ?_⟩)) rfl rfl) rfl ?_ | refine AWd_op (callS0L rfl rfl (hre) rfl (by repeat (first | exact trivial | exact AV.le.refl _ | exact AV.le.dat | exact AV.le.nils | exact AV.le.nilsf | exact AV.le.any _ | exact ObLe.refl _ | exact ⟨rfl, rfl⟩ | refine AV.le.tup ?_ | refine AV.le.agg ?_ | exact li | exact lb | exact ls | exact lk | exact ld | exact lz | refine ⟨?_, ?_⟩)) rfl rfl) rfl rfl ?_
    repeat (first | refine wk hT rfl rfl ?_ | refine wd hT rfl rfl rfl ?_ | refine wz hT rfl ?_ | refine AWd_nil ?_ | refine AWk_nil ?_ | refine wh hT rfl rfl rfl rfl ?_ | refine wg hT rfl rfl rfl rfl rfl ?_ | refine AW_seq ?_ | refine AW_region ?_ | refine wx mixed ?_ | refine AW_block ?_ | refine AW_skip ?_ | refine AW_exit ?_ | refine AW_ret ?_)
    first | refine AWk_op (callS0 rfl rfl (hd) rfl rfl rfl) rfl ?_ | refine AWd_op (callS0 rfl rfl (hd) rfl rfl rfl) rfl rfl ?_ | refine AWk_op (callS0L rfl rfl (hd) rfl (by repeat (first | exact trivial | exact AV.le.refl _ | exact AV.le.dat | exact AV.le.nils | exact AV.le.nilsf | exact AV.le.any _ | exact ObLe.refl _ | exact ⟨rfl, rfl⟩ | refine AV.le.tup ?_ | refine AV.le.agg ?_ | exact li | exact lb | exact ls | exact lk | exact ld | exact lz | refine ⟨?_, ?_⟩)) rfl rfl) rfl ?_ | refine AWd_op (callS0L rfl rfl (hd) rfl (by repeat (first | exact trivial | exact AV.le.refl _ | exact AV.le.dat | exact AV.le.nils | exact AV.le.nilsf | exact AV.le.any _ | exact ObLe.refl _ | exact ⟨rfl, rfl⟩ | refine AV.le.tup ?_ | refine AV.le.agg ?_ | exact li | exact lb | exact ls | exact lk | exact ld | exact lz | refine ⟨?_, ?_⟩)) rfl rfl) rfl rfl ?_
    repeat (first | refine wk hT rfl rfl ?_ | refine wd hT rfl rfl rfl ?_ | refine wz hT rfl ?_ | refine AWd_nil ?_ | refine AWk_nil ?_ | refine wh hT rfl rfl rfl rfl ?_ | refine wg hT rfl rfl rfl rfl rfl ?_ | refine AW_seq ?_ | refine AW_region ?_ | refine wx mixed ?_ | refine AW_block ?_ | refine AW_skip ?_ | refine AW_exit ?_ | refine AW_ret ?_)
    refine AWk_op (callS1 rfl rfl hdo [0] (by decide) rfl rfl rfl rfl ((Bool.and_true _).trans (lowL_row 0 _)) rfl rfl) rfl ?_
    repeat (first | refine wk hT rfl rfl ?_ | refine wd hT rfl rfl rfl ?_ | refine wz hT rfl ?_ | refine AWd_nil ?_ | refine AWk_nil ?_ | refine wh hT rfl rfl rfl rfl ?_ | refine wg hT rfl rfl rfl rfl rfl ?_ | refine AW_seq ?_ | refine AW_region ?_ | refine wx mixed ?_ | refine AW_block ?_ | refine AW_skip ?_ | refine AW_exit ?_ | refine AW_ret ?_)
    refine AWk_gop rfl rfl rfl (fun hg => ⟨(sg (C := True) hg).1, callS1 rfl rfl hs2 [0] (by decide) rfl rfl rfl ((Bool.and_true _).trans (lowL_row 0 _)) ((Bool.and_true _).trans (lowL_row 0 _)) rfl rfl⟩) ?_
    repeat (first | refine wk hT rfl rfl ?_ | refine wd hT rfl rfl rfl ?_ | refine wz hT rfl ?_ | refine AWd_nil ?_ | refine AWk_nil ?_ | refine wh hT rfl rfl rfl rfl ?_ | refine wg hT rfl rfl rfl rfl rfl ?_ | refine AW_seq ?_ | refine AW_region ?_ | refine wx mixed ?_ | refine AW_block ?_ | refine AW_skip ?_ | refine AW_exit ?_ | refine AW_ret ?_)
    first | refine AWk_gop rfl rfl rfl (fun hg => ⟨(sg (C := True) hg).1, callS0 rfl rfl (hx) rfl rfl rfl⟩) ?_ | refine AWd_gop rfl rfl rfl rfl (fun hg => ⟨(sg (C := True) hg).1, callS0 rfl rfl (hx) rfl rfl rfl⟩) ?_
    repeat (first | refine wk hT rfl rfl ?_ | refine wd hT rfl rfl rfl ?_ | refine wz hT rfl ?_ | refine AWd_nil ?_ | refine AWk_nil ?_ | refine wh hT rfl rfl rfl rfl ?_ | refine wg hT rfl rfl rfl rfl rfl ?_ | refine AW_seq ?_ | refine AW_region ?_ | refine wx mixed ?_ | refine AW_block ?_ | refine AW_skip ?_ | refine AW_exit ?_ | refine AW_ret ?_)
    refine AW_condL rfl (fun h2 => ?_) (fun h2 => ?_)
    · simp at h2
    repeat (first | refine wk hT rfl rfl ?_ | refine wd hT rfl rfl rfl ?_ | refine wz hT rfl ?_ | refine AWd_nil ?_ | refine AWk_nil ?_ | refine wh hT rfl rfl rfl rfl ?_ | refine wg hT rfl rfl rfl rfl rfl ?_ | refine AW_seq ?_ | refine AW_region ?_ | refine wx mixed ?_ | refine AW_block ?_ | refine AW_skip ?_ | refine AW_exit ?_ | refine AW_ret ?_)
    first | refine AWk_op (callS0 rfl rfl (hk) rfl rfl rfl) rfl ?_ | refine AWd_op (callS0 rfl rfl (hk) rfl rfl rfl) rfl rfl ?_ | refine AWk_op (callS0L rfl rfl (hk) rfl (by repeat (first | exact trivial | exact AV.le.refl _ | exact AV.le.dat | exact AV.le.nils | exact AV.le.nilsf | exact AV.le.any _ | exact ObLe.refl _ | exact ⟨rfl, rfl⟩ | refine AV.le.tup ?_ | refine AV.le.agg ?_ | exact li | exact lb | exact ls | exact lk | exact ld | exact lz | refine ⟨?_, ?_⟩)) rfl rfl) rfl ?_ | refine AWd_op (callS0L rfl rfl (hk) rfl (by repeat (first | exact trivial | exact AV.le.refl _ | exact AV.le.dat | exact AV.le.nils | exact AV.le.nilsf | exact AV.le.any _ | exact ObLe.refl _ | exact ⟨rfl, rfl⟩ | refine AV.le.tup ?_ | refine AV.le.agg ?_ | exact li | exact lb | exact ls | exact lk | exact ld | exact lz | refine ⟨?_, ?_⟩)) rfl rfl) rfl rfl ?_
    repeat (first | refine wk hT rfl rfl ?_ | refine wd hT rfl rfl rfl ?_ | refine wz hT rfl ?_ | refine AWd_nil ?_ | refine AWk_nil ?_ | refine wh hT rfl rfl rfl rfl ?_ | refine wg hT rfl rfl rfl rfl rfl ?_)
    refine AW_seq_cutC (ι := Bool × Decn) (fun x => [(11, .ptr 1 0), (15, .ptr 3 0)])
      (fun x => [bif x.1 then .buf 2 x.2.rs.length (rowR x.2.rs) else .dead, .row [.d (.sl 6 rp)], .row [.d (.int .i64 v), .d (.int .i64 rule), .d (.sl 2 (encRes us))], .row [.d (.int .i64 x.2.v), .d (.int .i64 x.2.rule), bif x.1 then .bm 0 x.2.rs.length else .d (.sl 2 (encRes x.2.rs))]])
      (fun x => x.2.rs.length ≤ 1000000) ?_ (fun x hxl => ?_)
    · refine AW_subL (l := [(3, .d (.int .i64 at_)), (2, .d (.int .i64 what)), (4, .d (.int .i64 by_)), (11, .ptr 1 0), (15, .ptr 3 0), (17, .d (.int .i64 kk))])
        (h' := [.buf 2 us.length (rowR us), .row [.d (.sl 6 rp)], .row [.d (.int .i64 v), .d (.int .i64 rule), .d (.sl 2 (encRes us))], .row [.d (.int .i64 v), .d (.int .i64 rule), .bm 0 us.length]]) ⟨.refl _, .refl _, .refl _, .refl _, .refl _, .refl _, trivial⟩ (HLe.refl _) ?_
      repeat (first | refine wk hT rfl rfl ?_ | refine wd hT rfl rfl rfl ?_ | refine wz hT rfl ?_ | refine AWd_nil ?_ | refine AWk_nil ?_ | refine wh hT rfl rfl rfl rfl ?_ | refine wg hT rfl rfl rfl rfl rfl ?_ | refine AW_seq ?_ | refine AW_region ?_ | refine wx mixed ?_ | refine AW_block ?_ | refine AW_skip ?_ | refine AW_exit ?_ | refine AW_ret ?_)
      first | refine AWk_op (callS0 rfl rfl (hw) rfl rfl rfl) rfl ?_ | refine AWd_op (callS0 rfl rfl (hw) rfl rfl rfl) rfl rfl ?_ | refine AWk_op (callS0L rfl rfl (hw) rfl (by repeat (first | exact trivial | exact AV.le.refl _ | exact AV.le.dat | exact AV.le.nils | exact AV.le.nilsf | exact AV.le.any _ | exact ObLe.refl _ | exact ⟨rfl, rfl⟩ | refine AV.le.tup ?_ | refine AV.le.agg ?_ | exact li | exact lb | exact ls | exact lk | exact ld | exact lz | refine ⟨?_, ?_⟩)) rfl rfl) rfl ?_ | refine AWd_op (callS0L rfl rfl (hw) rfl (by repeat (first | exact trivial | exact AV.le.refl _ | exact AV.le.dat | exact AV.le.nils | exact AV.le.nilsf | exact AV.le.any _ | exact ObLe.refl _ | exact ⟨rfl, rfl⟩ | refine AV.le.tup ?_ | refine AV.le.agg ?_ | exact li | exact lb | exact ls | exact lk | exact ld | exact lz | refine ⟨?_, ?_⟩)) rfl rfl) rfl rfl ?_
      repeat (first | refine wk hT rfl rfl ?_ | refine wd hT rfl rfl rfl ?_ | refine wz hT rfl ?_ | refine AWd_nil ?_ | refine AWk_nil ?_ | refine wh hT rfl rfl rfl rfl ?_ | refine wg hT rfl rfl rfl rfl rfl ?_ | refine AW_seq ?_ | refine AW_region ?_ | refine wx mixed ?_ | refine AW_block ?_ | refine AW_skip ?_ | refine AW_exit ?_ | refine AW_ret ?_)
      refine AW_condL rfl (fun c0 => ?_) (fun c0 => ?_)
      · repeat (first | refine wk hT rfl rfl ?_ | refine wd hT rfl rfl rfl ?_ | refine wz hT rfl ?_ | refine AWd_nil ?_ | refine AWk_nil ?_ | refine wh hT rfl rfl rfl rfl ?_ | refine wg hT rfl rfl rfl rfl rfl ?_ | refine AW_seq ?_ | refine AW_region ?_ | refine wx mixed ?_ | refine AW_block ?_ | refine AW_skip ?_ | refine AW_exit ?_ | refine AW_ret ?_)
        first | refine AWk_op (callS0 rfl rfl (h3) rfl rfl rfl) rfl ?_ | refine AWd_op (callS0 rfl rfl (h3) rfl rfl rfl) rfl rfl ?_ | refine AWk_op (callS0L rfl rfl (h3) rfl (by repeat (first | exact trivial | exact AV.le.refl _ | exact AV.le.dat | exact AV.le.nils | exact AV.le.nilsf | exact AV.le.any _ | exact ObLe.refl _ | exact ⟨rfl, rfl⟩ | refine AV.le.tup ?_ | refine AV.le.agg ?_ | exact li | exact lb | exact ls | exact lk | exact ld | exact lz | refine ⟨?_, ?_⟩)) rfl rfl) rfl ?_ | refine AWd_op (callS0L rfl rfl (h3) rfl (by repeat (first | exact trivial | exact AV.le.refl _ | exact AV.le.dat | exact AV.le.nils | exact AV.le.nilsf | exact AV.le.any _ | exact ObLe.refl _ | exact ⟨rfl, rfl⟩ | refine AV.le.tup ?_ | refine AV.le.agg ?_ | exact li | exact lb | exact ls | exact lk | exact ld | exact lz | refine ⟨?_, ?_⟩)) rfl rfl) rfl rfl ?_
        repeat (first | refine wk hT rfl rfl ?_ | refine wd hT rfl rfl rfl ?_ | refine wz hT rfl ?_ | refine AWd_nil ?_ | refine AWk_nil ?_ | refine wh hT rfl rfl rfl rfl ?_ | refine wg hT rfl rfl rfl rfl rfl ?_ | refine AW_seq ?_ | refine AW_region ?_ | refine wx mixed ?_ | refine AW_block ?_ | refine AW_skip ?_ | refine AW_exit ?_ | refine AW_ret ?_)
        exact ⟨(true, ⟨1 + b3, rule, us⟩), [], by simp only; omega, ⟨.refl _, .refl _, trivial⟩, ⟨ObLe.refl _, ObLe.refl _, ObLe.refl _, ⟨.int (wrap_id (by omega)), .refl _, .refl _, trivial⟩, trivial⟩, Env.below_mono hE (by simp), rfl, by simp only [lowH, lowO, lowL_row, cond_true]; rfl⟩
      repeat (first | refine wk hT rfl rfl ?_ | refine wd hT rfl rfl rfl ?_ | refine wz hT rfl ?_ | refine AWd_nil ?_ | refine AWk_nil ?_ | refine wh hT rfl rfl rfl rfl ?_ | refine wg hT rfl rfl rfl rfl rfl ?_ | refine AW_seq ?_ | refine AW_region ?_ | refine wx mixed ?_ | refine AW_block ?_ | refine AW_skip ?_ | refine AW_exit ?_ | refine AW_ret ?_)
      refine AW_condL rfl (fun c1 => ?_) (fun c1 => ?_)
      · repeat (first | refine wk hT rfl rfl ?_ | refine wd hT rfl rfl rfl ?_ | refine wz hT rfl ?_ | refine AWd_nil ?_ | refine AWk_nil ?_ | refine wh hT rfl rfl rfl rfl ?_ | refine wg hT rfl rfl rfl rfl rfl ?_ | refine AW_seq ?_ | refine AW_region ?_ | refine AW_block ?_ | refine AW_skip ?_ | refine AW_exit ?_ | refine AW_ret ?_)
        refine AW_drawG (fun i => bif Nat.beq i 1 || Nat.beq i 7 then [3] else []) (fun i => bif Nat.beq i 7 then [3] else []) mixed (by kernel_rfl) ?_
        repeat (first | refine AWg_load hT rfl rfl rfl rfl (by first | exact List.mem_cons_self | exact sm) rfl ?_ | refine AWg_pure hT (fun _ => rfl) rfl rfl (by first | exact True.intro | omega | exact sd) ?_ | refine AWg_store hT rfl rfl rfl (by first | exact List.mem_cons_self | exact sm) rfl ?_ | refine AWd_nil ?_)
        refine AWg_op (os := []) (fun k hk1 hk2 => callS0 rfl rfl (h3) rfl rfl rfl) rfl ?_
        repeat (first | refine AWg_load hT rfl rfl rfl rfl (by first | exact List.mem_cons_self | exact sm) rfl ?_ | refine AWg_pure hT (fun _ => rfl) rfl rfl (by first | exact True.intro | omega | exact sd) ?_ | refine AWg_store hT rfl rfl rfl (by first | exact List.mem_cons_self | exact sm) rfl ?_ | refine AWd_nil ?_)
        exact ⟨(true, ⟨v, rule + b3 - 1, us⟩), [], by simp only; omega, ⟨.refl _, .refl _, trivial⟩, ⟨ObLe.refl _, ObLe.refl _, ObLe.refl _, ⟨.refl _, .int (by rw [wrap_id (n := rule + b3) (by omega), wrap_id (by omega)]), .refl _, trivial⟩, trivial⟩, Env.below_mono hE (by simp), rfl, by simp only [lowH, lowO, lowL_row, cond_true]; rfl⟩
      repeat (first | refine wk hT rfl rfl ?_ | refine wd hT rfl rfl rfl ?_ | refine wz hT rfl ?_ | refine AWd_nil ?_ | refine AWk_nil ?_ | refine wh hT rfl rfl rfl rfl ?_ | refine wg hT rfl rfl rfl rfl rfl ?_ | refine AW_seq ?_ | refine AW_region ?_ | refine wx mixed ?_ | refine AW_block ?_ | refine AW_skip ?_ | refine AW_exit ?_ | refine AW_ret ?_)
      refine AW_condL rfl (fun c2 => ?_) (fun c2 => ?_)
      · repeat (first | refine wk hT rfl rfl ?_ | refine wd hT rfl rfl rfl ?_ | refine wz hT rfl ?_ | refine AWd_nil ?_ | refine AWk_nil ?_ | refine wh hT rfl rfl rfl rfl ?_ | refine wg hT rfl rfl rfl rfl rfl ?_ | refine AW_seq ?_ | refine AW_region ?_ | refine wx mixed ?_ | refine AW_block ?_ | refine AW_skip ?_ | refine AW_exit ?_ | refine AW_ret ?_)
        refine AW_condL rfl (fun c5 => ?_) (fun c5 => ?_)
        · have hpos : 0 < us.length := by simp at c5; omega
          have rk := rk hpos
          repeat (first | refine wk hT rfl rfl ?_ | refine wd hT rfl rfl rfl ?_ | refine wz hT rfl ?_ | refine AWd_nil ?_ | refine AWk_nil ?_ | refine wh hT rfl rfl rfl rfl ?_ | refine wg hT rfl rfl rfl rfl rfl ?_ | refine AW_seq ?_ | refine AW_region ?_ | refine AW_block ?_ | refine AW_skip ?_ | refine AW_exit ?_ | refine AW_ret ?_)
          refine AW_drawG (fun i => bif Nat.beq i 1 then [3] else bif Nat.beq i 7 || Nat.beq i 8 then [0] else []) (fun i => bif Nat.beq i 8 then [0] else []) mixed (by kernel_rfl) ?_
          repeat (first | refine AWg_load hT rfl rfl rfl rfl (by first | exact List.mem_cons_self | exact sm) rfl ?_ | refine AWg_pure hT (fun _ => rfl) rfl rfl (by first | exact True.intro | omega | exact sd) ?_ | refine AWg_store hT rfl rfl rfl (by first | exact List.mem_cons_self | exact sm) rfl ?_ | refine AWd_nil ?_)
          refine AWg_op (os := []) (fun k hk1 hk2 => callS0 rfl rfl (h4) rfl rfl rfl) rfl ?_
          repeat (first | refine AWg_load hT rfl rfl rfl rfl (by first | exact List.mem_cons_self | exact sm) rfl ?_ | refine AWg_pure hT (fun _ => rfl) rfl rfl (by first | exact True.intro | omega | exact sd) ?_ | refine AWg_store hT rfl rfl rfl (by first | exact List.mem_cons_self | exact sm) rfl ?_ | refine AWd_nil ?_)
          refine AWg_op (os := []) (fun k hk1 hk2 => OpS_of_pure (bufAddr_ok (sz := 2) hT rfl rfl rfl rfl (by omega))) rfl ?_
          refine AWg_op (os := []) (fun k hk1 hk2 => fldBuf_ok hT rfl rfl rfl rfl ((hk2 0 List.mem_cons_self).trans rfl) (by omega)) rfl ?_
          have hset := rowR_set1 us kk.toNat (IntKind.i64.wrap (1 + b4))
          refine AWg_op (v := .any) (os := [.buf 2 us.length (rowR (us.set kk.toNat (((us[kk.toNat]?).getD (0, 0)).1, IntKind.i64.wrap (1 + b4))))]) (fun k hk1 hk2 => bufStoreE (vy := .d (.int .i64 (IntKind.i64.wrap (1 + b4)))) hT rfl rfl rfl ((hk2 0 List.mem_cons_self).trans rfl) rfl rfl rfl (by rw [rowR_length]; omega) (by rw [hset]; rfl)) rfl ?_
          repeat (first | refine AWg_load hT rfl rfl rfl rfl (by first | exact List.mem_cons_self | exact sm) rfl ?_ | refine AWg_pure hT (fun _ => rfl) rfl rfl (by first | exact True.intro | omega | exact sd) ?_ | refine AWg_store hT rfl rfl rfl (by first | exact List.mem_cons_self | exact sm) rfl ?_ | refine AWd_nil ?_)
          refine ⟨(true, ⟨v, rule, us.set kk.toNat (((us[kk.toNat]?).getD (0, 0)).1, IntKind.i64.wrap (1 + b4))⟩), [], by simp only [List.length_set]; omega, ⟨.refl _, .refl _, trivial⟩, ⟨⟨rfl, ?_, AllLe.of_eq rfl⟩, ObLe.refl _, ObLe.refl _, ⟨.refl _, .refl _, .eq ?_, trivial⟩, trivial⟩, Env.below_mono hE (by simp), rfl, by simp only [lowH, lowO, lowL_row, cond_true]; rfl⟩
          · simp
          · simp
        · repeat (first | refine wk hT rfl rfl ?_ | refine wd hT rfl rfl rfl ?_ | refine wz hT rfl ?_ | refine AWd_nil ?_ | refine AWk_nil ?_ | refine wh hT rfl rfl rfl rfl ?_ | refine wg hT rfl rfl rfl rfl rfl ?_ | refine AW_seq ?_ | refine AW_region ?_ | refine wx mixed ?_ | refine AW_block ?_ | refine AW_skip ?_ | refine AW_exit ?_ | refine AW_ret ?_)
          exact ⟨(true, ⟨v, rule, us⟩), [], by simp only; omega, ⟨.refl _, .refl _, trivial⟩, HLe.refl _, Env.below_mono hE (by simp), rfl, by simp only [lowH, lowO, lowL_row, cond_true]; rfl⟩
      repeat (first | refine wk hT rfl rfl ?_ | refine wd hT rfl rfl rfl ?_ | refine wz hT rfl ?_ | refine AWd_nil ?_ | refine AWk_nil ?_ | refine wh hT rfl rfl rfl rfl ?_ | refine wg hT rfl rfl rfl rfl rfl ?_ | refine AW_seq ?_ | refine AW_region ?_ | refine wx mixed ?_ | refine AW_block ?_ | refine AW_skip ?_ | refine AW_exit ?_ | refine AW_ret ?_)
      refine AW_condL rfl (fun c3 => ?_) (fun c3 => ?_)
      · repeat (first | refine wk hT rfl rfl ?_ | refine wd hT rfl rfl rfl ?_ | refine wz hT rfl ?_ | refine AWd_nil ?_ | refine AWk_nil ?_ | refine wh hT rfl rfl rfl rfl ?_ | refine wg hT rfl rfl rfl rfl rfl ?_ | refine AW_seq ?_ | refine AW_region ?_ | refine wx mixed ?_ | refine AW_block ?_ | refine AW_skip ?_ | refine AW_exit ?_ | refine AW_ret ?_)
        refine AW_condL rfl (fun c5 => ?_) (fun c5 => ?_)
        · have hpos : 0 < us.length := by simp at c5; omega
          have rk := rk hpos
          obtain ⟨k, rfl⟩ : ∃ k : Nat, kk = (k : Int) := ⟨kk.toNat, by omega⟩
          have hwk : IntKind.i64.wrap ((k : Int) + 1) = ((k + 1 : Nat) : Int) := by rw [wrap_id (by omega)]; omega
          have hcut := erase_cut us k hwk
          have htl : ((encRes us).take ((k : Int)).toNat).length ≤ 1000000 := by rw [List.length_take]; omega
          have hdl : ((encRes us).drop (IntKind.i64.wrap ((k : Int) + 1)).toNat).length ≤ 1000000 := by rw [List.length_drop]; omega
          have hC1 : 0 ≤ (k : Int) ∧ (k : Int) ≤ ((encRes us).length : Int) := by omega
          refine AW_freezeBufH 3 2 0 (encRes us) rfl rfl rfl hulen hRD rfl ?_
          refine AW_room ?_
          repeat (first | refine wk hT rfl rfl ?_ | refine wd hT rfl rfl rfl ?_ | refine wz hT rfl ?_ | refine AWd_nil ?_ | refine AWk_nil ?_ | refine wh hT rfl rfl rfl rfl ?_ | refine wg hT rfl rfl rfl rfl rfl ?_ | refine AW_seq ?_ | refine AW_region ?_ | refine AW_block ?_ | refine AW_skip ?_ | refine AW_exit ?_ | refine AW_ret ?_)
          refine AW_drawG (fun i => bif Nat.beq i 2 || Nat.beq i 7 then [3] else bif Nat.beq i 5 || Nat.beq i 11 then [4] else bif Nat.beq i 13 then [3] else []) (fun i => bif Nat.beq i 5 || Nat.beq i 11 then [4] else bif Nat.beq i 13 then [3] else []) mixed (by kernel_rfl) ?_
          refine AWg_op (os := []) (fun k hk1 hk2 => buildSl_ok hT rfl rfl) rfl ?_
          repeat (first | refine AWg_load hT rfl rfl rfl rfl (by first | exact List.mem_cons_self | exact sm) rfl ?_ | refine AWg_pure hT (fun _ => rfl) rfl rfl (by first | exact True.intro | omega | exact sd) ?_ | refine AWg_store hT rfl rfl rfl (by first | exact List.mem_cons_self | exact sm) rfl ?_ | refine AWd_nil ?_)
          generalize hta : (encRes us).take ((k : Int)).toNat = ta at hcut htl
          generalize htb : (encRes us).drop (IntKind.i64.wrap ((k : Int) + 1)).toNat = tb at hcut hdl
          refine AWg_op (v := .sl 2 ta (.right 4)) (os := [.right 2 ta.length]) (fun kk hk1 hk2 => append_room0 (i := 4) hT rfl rfl rfl (.inl rfl) (by simp) ((hk2 4 List.mem_cons_self).trans rfl) (by rw [← hta]; rfl) (by show ta.length * (16 + 1) ≤ _; omega)) rfl ?_
          repeat (first | refine AWg_load hT rfl rfl rfl rfl (by first | exact List.mem_cons_self | exact sm) rfl ?_ | refine AWg_pure hT (fun _ => rfl) rfl rfl (by first | exact True.intro | omega | exact sd) ?_ | refine AWg_store hT rfl rfl rfl (by first | exact List.mem_cons_self | exact sm) rfl ?_ | refine AWd_nil ?_)
          refine AWg_op (v := .sl 2 (ta ++ tb) (.right 4)) (os := [.right 2 (ta ++ tb).length]) (fun kk hk1 hk2 => append_rightL (i := 4) hT rfl rfl rfl rfl ((hk2 4 List.mem_cons_self).trans rfl) (by rw [← htb]; rfl) (by show (ta.length + tb.length) * (16 + 1) ≤ _; omega)) rfl ?_
          rw [← hcut]
          repeat (first | refine AWg_load hT rfl rfl rfl rfl (by first | exact List.mem_cons_self | exact sm) rfl ?_ | refine AWg_pure hT (fun _ => rfl) rfl rfl (by first | exact True.intro | omega | exact sd) ?_ | refine AWg_store hT rfl rfl rfl (by first | exact List.mem_cons_self | exact sm) rfl ?_ | refine AWd_nil ?_)
          exact ⟨(false, ⟨v, rule, us.eraseIdx k⟩), [_], by simp only; have := List.length_eraseIdx_of_lt (l := us) (i := k) (by omega); omega, ⟨.refl _, .refl _, trivial⟩, ⟨trivial, ObLe.refl _, ObLe.refl _, ⟨.refl _, .refl _, AV.le.dat, trivial⟩, ObLe.refl _, trivial⟩, Env.below_mono hE (by simp), rfl, rfl⟩
        · repeat (first | refine wk hT rfl rfl ?_ | refine wd hT rfl rfl rfl ?_ | refine wz hT rfl ?_ | refine AWd_nil ?_ | refine AWk_nil ?_ | refine wh hT rfl rfl rfl rfl ?_ | refine wg hT rfl rfl rfl rfl rfl ?_ | refine AW_seq ?_ | refine AW_region ?_ | refine wx mixed ?_ | refine AW_block ?_ | refine AW_skip ?_ | refine AW_exit ?_ | refine AW_ret ?_)
          exact ⟨(true, ⟨v, rule, us⟩), [], by simp only; omega, ⟨.refl _, .refl _, trivial⟩, HLe.refl _, Env.below_mono hE (by simp), rfl, by simp only [lowH, lowO, lowL_row, cond_true]; rfl⟩
      · repeat (first | refine wk hT rfl rfl ?_ | refine wd hT rfl rfl rfl ?_ | refine wz hT rfl ?_ | refine AWd_nil ?_ | refine AWk_nil ?_ | refine wh hT rfl rfl rfl rfl ?_ | refine wg hT rfl rfl rfl rfl rfl ?_ | refine AW_seq ?_ | refine AW_region ?_ | refine AW_block ?_ | refine AW_skip ?_ | refine AW_exit ?_ | refine AW_ret ?_)
        refine AW_drawG (fun i => bif Nat.beq i 1 || Nat.beq i 9 then [3] else bif Nat.beq i 7 then [0] else []) (fun i => bif Nat.beq i 9 then [3] else bif Nat.beq i 7 then [0] else []) mixed (by kernel_rfl) ?_
        repeat (first | refine AWg_load hT rfl rfl rfl rfl (by first | exact List.mem_cons_self | exact sm) rfl ?_ | refine AWg_pure hT (fun _ => rfl) rfl rfl (by first | exact True.intro | omega | exact sd) ?_ | refine AWg_store hT rfl rfl rfl (by first | exact List.mem_cons_self | exact sm) rfl ?_ | refine AWd_nil ?_)
        refine AWg_op (os := []) (fun k hk1 hk2 => callS0 rfl rfl (h15) rfl rfl rfl) rfl ?_
        repeat (first | refine AWg_load hT rfl rfl rfl rfl (by first | exact List.mem_cons_self | exact sm) rfl ?_ | refine AWg_pure hT (fun _ => rfl) rfl rfl (by first | exact True.intro | omega | exact sd) ?_ | refine AWg_store hT rfl rfl rfl (by first | exact List.mem_cons_self | exact sm) rfl ?_ | refine AWd_nil ?_)
        refine AWg_op (os := []) (fun k hk1 hk2 => buildSl_ok hT rfl rfl) rfl ?_
        refine AWg_op (v := .bm 0 (us.length + 1)) (os := [.buf 2 (us.length + 1) (rowR us ++ flatAV [[.int .i64 (IntKind.i64.wrap (1 + b15)), .int .i64 1]])]) (fun kk hk1 hk2 => bufApp_ok (i := 0) (sz := 2) (by_ := 16) (es2 := [[.int .i64 (IntKind.i64.wrap (1 + b15)), .int .i64 1]]) hT rfl rfl rfl rfl ((hk2 0 List.mem_cons_self).trans rfl) rfl (by show (us.length + 1) * (16 + 1) ≤ 140737488355328; omega)) rfl ?_
        repeat (first | refine AWg_load hT rfl rfl rfl rfl (by first | exact List.mem_cons_self | exact sm) rfl ?_ | refine AWg_pure hT (fun _ => rfl) rfl rfl (by first | exact True.intro | omega | exact sd) ?_ | refine AWg_store hT rfl rfl rfl (by first | exact List.mem_cons_self | exact sm) rfl ?_ | refine AWd_nil ?_)
        refine ⟨(true, ⟨v, rule, us ++ [(1 + b15, 1)]⟩), [], by simp only [List.length_append, List.length_singleton]; omega, ⟨.refl _, .refl _, trivial⟩, ⟨⟨rfl, ?_, AllLe.of_eq ?_⟩, ObLe.refl _, ObLe.refl _, ⟨.refl _, .refl _, .eq ?_, trivial⟩, trivial⟩, Env.below_mono hE (by simp), rfl, by simp only [lowH, lowO, lowL_row, cond_true]; rfl⟩
        · simp
        · rw [rowR_append, wrap_id (by omega)]; rfl
        · simp
    · obtain ⟨fl, d⟩ := x
      simp only at hxl ⊢
      have hX2 := hX d hxl
      have hXR2 := hXR d hxl
      have hRDd : RowDat (rowR d.rs) 0 2 (encRes d.rs) := by have := RowDat_row d.rs []; rwa [List.append_nil] at this
      have hdl := encRes_length d.rs
      generalize explF rs d = bx at hX2 hXR2
      cases fl
      · simp only [cond_false]
        repeat (first | refine wk hT rfl rfl ?_ | refine wd hT rfl rfl rfl ?_ | refine wz hT rfl ?_ | refine AWd_nil ?_ | refine AWk_nil ?_ | refine wh hT rfl rfl rfl rfl ?_ | refine wg hT rfl rfl rfl rfl rfl ?_ | refine AW_seq ?_ | refine AW_region ?_ | refine wx mixed ?_ | refine AW_block ?_ | refine AW_skip ?_ | refine AW_exit ?_ | refine AW_ret ?_)
        first | refine AWk_op (callS0 rfl rfl (haw) rfl rfl rfl) rfl ?_ | refine AWd_op (callS0 rfl rfl (haw) rfl rfl rfl) rfl rfl ?_ | refine AWk_op (callS0L rfl rfl (haw) rfl (by repeat (first | exact trivial | exact AV.le.refl _ | exact AV.le.dat | exact AV.le.nils | exact AV.le.nilsf | exact AV.le.any _ | exact ObLe.refl _ | exact ⟨rfl, rfl⟩ | refine AV.le.tup ?_ | refine AV.le.agg ?_ | exact li | exact lb | exact ls | exact lk | exact ld | exact lz | refine ⟨?_, ?_⟩)) rfl rfl) rfl ?_ | refine AWd_op (callS0L rfl rfl (haw) rfl (by repeat (first | exact trivial | exact AV.le.refl _ | exact AV.le.dat | exact AV.le.nils | exact AV.le.nilsf | exact AV.le.any _ | exact ObLe.refl _ | exact ⟨rfl, rfl⟩ | refine AV.le.tup ?_ | refine AV.le.agg ?_ | exact li | exact lb | exact ls | exact lk | exact ld | exact lz | refine ⟨?_, ?_⟩)) rfl rfl) rfl rfl ?_
        repeat (first | refine wk hT rfl rfl ?_ | refine wd hT rfl rfl rfl ?_ | refine wz hT rfl ?_ | refine AWd_nil ?_ | refine AWk_nil ?_ | refine wh hT rfl rfl rfl rfl ?_ | refine wg hT rfl rfl rfl rfl rfl ?_ | refine AW_seq ?_ | refine AW_region ?_ | refine wx mixed ?_ | refine AW_block ?_ | refine AW_skip ?_ | refine AW_exit ?_ | refine AW_ret ?_)
        refine AWd_gop rfl rfl rfl rfl (fun hg' => ⟨by first | exact ⟨hg', hg', True.intro⟩ | exact ⟨hg', hg', hg', True.intro⟩ | exact (sg (C := True) hg').1, callS0 rfl rfl hX2 rfl rfl rfl⟩) ?_
        repeat (first | refine wk hT rfl rfl ?_ | refine wd hT rfl rfl rfl ?_ | refine wz hT rfl ?_ | refine AWd_nil ?_ | refine AWk_nil ?_ | refine wh hT rfl rfl rfl rfl ?_ | refine wg hT rfl rfl rfl rfl rfl ?_ | refine AW_seq ?_ | refine AW_region ?_ | refine wx mixed ?_ | refine AW_block ?_ | refine AW_skip ?_ | refine AW_exit ?_ | refine AW_ret ?_)
        refine AWd_gop rfl rfl rfl rfl (fun hg' => ⟨by first | exact ⟨hg', hg', True.intro⟩ | exact ⟨hg', hg', hg', True.intro⟩ | exact (sg (C := True) hg').1, callS0 rfl rfl hXR2 rfl rfl rfl⟩) ?_
        repeat (first | refine wk hT rfl rfl ?_ | refine wd hT rfl rfl rfl ?_ | refine wz hT rfl ?_ | refine AWd_nil ?_ | refine AWk_nil ?_ | refine wh hT rfl rfl rfl rfl ?_ | refine wg hT rfl rfl rfl rfl rfl ?_ | refine AW_seq ?_ | refine AW_region ?_ | refine wx mixed ?_ | refine AW_block ?_ | refine AW_skip ?_ | refine AW_exit ?_ | refine AW_ret ?_)
        exact rq ⟨rfl, rfl⟩ rfl (.bool (by simp))
      · simp only [cond_true]
        refine AW_freezeBufH 3 2 0 (encRes d.rs) rfl rfl rfl hdl hRDd rfl ?_
        refine AW_subL (l := [(11, .ptr 1 0), (15, .ptr 3 0)])
          (h' := [.dead, .row [.d (.sl 6 rp)], .row [.d (.int .i64 v), .d (.int .i64 rule), .d (.sl 2 (encRes us))], .row [.d (.int .i64 d.v), .d (.int .i64 d.rule), .d (.sl 2 (encRes d.rs))]]) ⟨.refl _, .refl _, trivial⟩ ⟨trivial, ObLe.refl _, ObLe.refl _, ⟨.refl _, .refl _, AV.le.dat, trivial⟩, trivial⟩ ?_
        repeat (first | refine wk hT rfl rfl ?_ | refine wd hT rfl rfl rfl ?_ | refine wz hT rfl ?_ | refine AWd_nil ?_ | refine AWk_nil ?_ | refine wh hT rfl rfl rfl rfl ?_ | refine wg hT rfl rfl rfl rfl rfl ?_ | refine AW_seq ?_ | refine AW_region ?_ | refine wx mixed ?_ | refine AW_block ?_ | refine AW_skip ?_ | refine AW_exit ?_ | refine AW_ret ?_)
        first | refine AWk_op (callS0 rfl rfl (haw) rfl rfl rfl) rfl ?_ | refine AWd_op (callS0 rfl rfl (haw) rfl rfl rfl) rfl rfl ?_ | refine AWk_op (callS0L rfl rfl (haw) rfl (by repeat (first | exact trivial | exact AV.le.refl _ | exact AV.le.dat | exact AV.le.nils | exact AV.le.nilsf | exact AV.le.any _ | exact ObLe.refl _ | exact ⟨rfl, rfl⟩ | refine AV.le.tup ?_ | refine AV.le.agg ?_ | exact li | exact lb | exact ls | exact lk | exact ld | exact lz | refine ⟨?_, ?_⟩)) rfl rfl) rfl ?_ | refine AWd_op (callS0L rfl rfl (haw) rfl (by repeat (first | exact trivial | exact AV.le.refl _ | exact AV.le.dat | exact AV.le.nils | exact AV.le.nilsf | exact AV.le.any _ | exact ObLe.refl _ | exact ⟨rfl, rfl⟩ | refine AV.le.tup ?_ | refine AV.le.agg ?_ | exact li | exact lb | exact ls | exact lk | exact ld | exact lz | refine ⟨?_, ?_⟩)) rfl rfl) rfl rfl ?_
        repeat (first | refine wk hT rfl rfl ?_ | refine wd hT rfl rfl rfl ?_ | refine wz hT rfl ?_ | refine AWd_nil ?_ | refine AWk_nil ?_ | refine wh hT rfl rfl rfl rfl ?_ | refine wg hT rfl rfl rfl rfl rfl ?_ | refine AW_seq ?_ | refine AW_region ?_ | refine wx mixed ?_ | refine AW_block ?_ | refine AW_skip ?_ | refine AW_exit ?_ | refine AW_ret ?_)
        refine AWd_gop rfl rfl rfl rfl (fun hg' => ⟨by first | exact ⟨hg', hg', True.intro⟩ | exact ⟨hg', hg', hg', True.intro⟩ | exact (sg (C := True) hg').1, callS0 rfl rfl hX2 rfl rfl rfl⟩) ?_
        repeat (first | refine wk hT rfl rfl ?_ | refine wd hT rfl rfl rfl ?_ | refine wz hT rfl ?_ | refine AWd_nil ?_ | refine AWk_nil ?_ | refine wh hT rfl rfl rfl rfl ?_ | refine wg hT rfl rfl rfl rfl rfl ?_ | refine AW_seq ?_ | refine AW_region ?_ | refine wx mixed ?_ | refine AW_block ?_ | refine AW_skip ?_ | refine AW_exit ?_ | refine AW_ret ?_)
        refine AWd_gop rfl rfl rfl rfl (fun hg' => ⟨by first | exact ⟨hg', hg', True.intro⟩ | exact ⟨hg', hg', hg', True.intro⟩ | exact (sg (C := True) hg').1, callS0 rfl rfl hXR2 rfl rfl rfl⟩) ?_
        repeat (first | refine wk hT rfl rfl ?_ | refine wd hT rfl rfl rfl ?_ | refine wz hT rfl ?_ | refine AWd_nil ?_ | refine AWk_nil ?_ | refine wh hT rfl rfl rfl rfl ?_ | refine wg hT rfl rfl rfl rfl rfl ?_ | refine AW_seq ?_ | refine AW_region ?_ | refine wx mixed ?_ | refine AW_block ?_ | refine AW_skip ?_ | refine AW_exit ?_ | refine AW_ret ?_)
        exact rq ⟨rfl, rfl⟩ rfl (.bool (by simp))
end Tdoc
