/- A list that its caller owns, told to a callee as data for one call. No program is named here. -/
import Derived.Test.YtoaogfehdalmdaaGreatDoorK2
import Derived.Test.YtoaogfehdalmdaaGreatDoorK4
import Derived.Test.YtoaogfehdalmdaaGreatDoorK7
import Derived.Test.YtoaogfehdalmdaaGreatDoorK5
import Derived.Test.YtoaogfehdalmdaaGreatDoorK6
import Derived.Test.YtoaogfehdalmdaaGreatDoorK8
set_option linter.unusedSimpArgs false
set_option linter.unusedVariables false
namespace Tdoc
open Go

mutual
/-- The arguments as the callee sees them: the owned list as data. -/
def fzA (n sz : Nat) (es : List (List Dat)) : AV → AV
  | .d x => .d x
  | .sl s e _ => .d (.sl s e)
  | .nils => .nils
  | .nilp => .nilp
  | .iptr cs => .iptr cs
  | .bm i m => bif Nat.beq i 0 && Nat.beq m n then .d (.sl sz es) else .any
  | .agg cs => .agg (fzL n sz es cs)
  | _ => .any
def fzL (n sz : Nat) (es : List (List Dat)) : List AV → List AV
  | [] => []
  | a :: l => fzA n sz es a :: fzL n sz es l
end

theorem fzL_at (n sz : Nat) (es : List (List Dat)) : ∀ (l : List AV) (j : Nat), (fzL n sz es l)[j]? = (l[j]?).map (fzA n sz es)
  | [], j => by simp [fzL]
  | a :: l, 0 => by simp [fzL]
  | a :: l, j + 1 => by simpa [fzL] using fzL_at n sz es l j
theorem fzL_length (n sz : Nat) (es : List (List Dat)) : ∀ (l : List AV), (fzL n sz es l).length = l.length
  | [] => rfl
  | a :: l => by simp [fzL, fzL_length n sz es l]

def ghM (m : Addr → Option Value) : Gh := ⟨m, fun _ => none, fun _ _ => none, fun _ => none⟩

theorem fzA_rep {G : Gh} {m : Addr → Option Value} {n sz : Nat} {es : List (List Dat)} (hm : ∀ a v, G.imm a = some v → m a = some v) (h0 : ∀ v, RepA G (.bm 0 n) v → RepD m (.sl sz es) v) {x : AV} {v : Value} (r : RepA G x v) :
    RepA (ghM m) (fzA n sz es x) v := by
  induction r with
  | d r => exact .d (r.mono hm)
  | sl r t => exact .d (r.mono hm)
  | nils => exact .nils
  | ptr off hl => exact .any _
  | iptr a vs h1 h2 h3 => exact .iptr a vs h1 (fun j d hd => hm _ _ (h2 j d hd)) (fun j d hd => (h3 j d hd).mono hm)
  | nilp => exact .nilp
  | row off n cap hl => exact .any _
  | @bm i k a cap hr hz =>
    show RepA _ (bif Nat.beq i 0 && Nat.beq k n then _ else _) _
    cases hb : (Nat.beq i 0 && Nat.beq k n) with
    | false => exact .any _
    | true =>
      rw [Bool.and_eq_true] at hb
      obtain rfl := Nat.eq_of_beq_eq_true hb.1
      obtain rfl := Nat.eq_of_beq_eq_true hb.2
      exact .d (h0 _ (.bm a cap hr hz))
  | bp p cap k hr => exact .any _
  | fn f fs cs h1 h2 _ _ ih1 ih2 => exact .any _
  | nilf => exact .any _
  | ifc h => exact .any _
  | agg vs h1 _ h3 ih =>
    refine .agg vs (by rw [h1, fzL_length]) (fun j x v hx hv => ?_) h3
    rw [fzL_at, Option.map_eq_some_iff] at hx
    obtain ⟨y, hy, rfl⟩ := hx
    exact ih j y v hy hv
  | tup vs h1 _ ih => exact .any _
  | gd _ hu ih => exact .any _
  | any v => exact .any v

theorem bufFrozen {E : Env} {G : Gh} {h : List AObj} {w : World} {i n sz : Nat} {cells : List AV} {es : List (List Dat)} (hw : WRel E G h w) (hi : h[i]? = some (.buf sz n cells)) (hn : es.length = n) (hd : RowDat cells 0 sz es) :
    ∃ m : Addr → Option Value, (∀ a v, G.imm a = some v → m a = some v) ∧ (∀ a v, m a = some v → w.cell? a = some v) ∧ ∀ v, RepA G (.bm i n) v → RepD m (.sl sz es) v := by
  obtain ⟨p, cap, hl, hlater, hb1, hb2, hb3, hb4⟩ := hw.obj i _ hi
  cases p with
  | none =>
    have hc0 := hb3.1 rfl
    have hes : es = [] := List.length_eq_zero_iff.1 (by omega)
    refine ⟨G.imm, fun _ _ h => h, hw.imm, fun v hv => ?_⟩
    obtain ⟨p', cap', rfl, hl'⟩ := hv.bm_inv
    rw [hl] at hl'; cases hl'
    subst hes
    have hn0 : n = 0 := by simpa using hn.symm
    subst hn0; subst hc0
    exact .nil sz
  | some p =>
    have hsp := hb3.2 p rfl
    by_cases hcap0 : 0 < cap
    · obtain ⟨q1, q2, q3, q4⟩ := hb4 p rfl hcap0
      have hns : n * sz ≤ cap * sz := Nat.mul_le_mul_right _ hb2
      let m : Addr → Option Value := fun a => if a.block = p.block ∧ a.spot = none ∧ p.off ≤ a.off ∧ a.off < p.off + n * sz then w.cell? a else G.imm a
      have hle : ∀ a v, G.imm a = some v → m a = some v := by
        intro x u hu
        have hne : ¬ (x.block = p.block ∧ x.spot = none ∧ p.off ≤ x.off ∧ x.off < p.off + n * sz) := fun hh => by
          have := (q4 (x.off - p.off) (by omega)).2.2
          rw [add_off p q1, ← hh.1, show p.off + (x.off - p.off) = x.off by omega, ← hh.2.1] at this
          rw [show (⟨x.block, x.off, x.spot⟩ : Addr) = x from rfl, hu] at this
          cases this
        show (if _ then _ else _) = _
        rw [if_neg hne]; exact hu
      have hat : ∀ k, k < n * sz → m (p.add k) = w.cell? (p.add k) := fun k hk => by
        show (if _ then _ else _) = _
        rw [if_pos (by rw [add_off p q1]; exact ⟨rfl, rfl, by simp, by simp; omega⟩)]
      refine ⟨m, hle, fun x u hu => ?_, fun v hv => ?_⟩
      · simp only [m] at hu
        split at hu
        · exact hu
        · exact hw.imm x u hu
      · obtain ⟨p', cap', rfl, hl'⟩ := hv.bm_inv
        rw [hl] at hl'; cases hl'
        have hcell : ∀ (i' : Nat) (e : List Dat) (j : Nat) (d : Dat), es[i']? = some e → e[j]? = some d → m (p.add (i' * sz + j)) = some ((w.cell? (p.add (i' * sz + j))).getD undef) ∧ RepD m d ((w.cell? (p.add (i' * sz + j))).getD undef) := by
          intro i' e j d he hj
          obtain ⟨c, g1, g2⟩ := hd.2 i' e j d he hj
          rw [Nat.zero_add] at g1
          have hlt := (List.getElem?_eq_some_iff.1 g1).1
          obtain ⟨u, u1, u2, u3⟩ := q3 _ c g1
          rw [hat _ (by omega), u1]
          exact ⟨rfl, (toDat_ok u3 g2).mono hle⟩
        rw [← hn]
        exact .sl sz es p cap (fun k => (w.cell? (p.add k)).getD undef) q1 (by omega) hd.1 (fun i' e j d he hj => (hcell i' e j d he hj).1) (fun i' e j d he hj => (hcell i' e j d he hj).2)
    · have hc0 : cap = 0 := by omega
      have hes : es = [] := List.length_eq_zero_iff.1 (by omega)
      refine ⟨G.imm, fun _ _ h => h, hw.imm, fun v hv => ?_⟩
      obtain ⟨p', cap', rfl, hl'⟩ := hv.bm_inv
      rw [hl] at hl'; cases hl'
      subst hes
      have hn0 : n = 0 := by simpa using hn.symm
      subst hn0; subst hc0
      exact .sl sz [] p 0 (fun _ => undef) hsp (Nat.le_refl _) (fun e he => by cases he) (fun i e j d he => by simp at he) (fun i e j d he => by simp at he)

/-- A contract over data, used with a list that the caller owns and keeps. -/
theorem Spec.tmp {P : Program} {g : FuncId} {args : List AV} {n sz : Nat} {es : List (List Dat)} {cells : List AV} {r0 : AV} (S : Spec P g (fzL n sz es args) [] (fun r h' => r = r0 ∧ h' = []))
    (hn : es.length = n) (hd : RowDat cells 0 sz es) (hr0 : ∀ G G' v, RepA G r0 v → RepA G' r0 v) (h1 : low 1 r0 = true) (h2 : lowH 1 [.buf sz n cells] = true) :
    Spec P g args [.buf sz n cells] (fun r h' => r = r0 ∧ h' = [.buf sz n cells]) := by
  refine ⟨S.1, fun G w vals k1 k2 ht hw => ?_⟩
  obtain ⟨m, m1, m2, m3⟩ := bufFrozen (i := 0) hw rfl hn hd
  have htab : TabOk w (ghM m) := ⟨TabI.mono m1 ht.1, fun g p hg => ⟨rfl, (ht.2 g p hg).2⟩⟩
  have hcall := S.2 (ghM m) w vals (by rw [k1, fzL_length]) (fun j y v hy hv => by
    rw [fzL_at, Option.map_eq_some_iff] at hy
    obtain ⟨x, hx, rfl⟩ := hy
    exact fzA_rep m1 m3 (k2 j x v hx hv)) htab
    ⟨.refl _, m2, fun a v ha => .inl ha, fun b hb => rfl, Nat.le_refl _, rfl, rfl, rfl, fun b i hb => (by cases hb), fun i hi => ⟨rfl, fun n => rfl⟩, fun i o hi => (by simp at hi)⟩
  refine hcall.mono ?_
  rintro ex w2 ⟨v, r, h', G2, rfl, ⟨rfl, rfl⟩, -, -, -, hv, hw2⟩
  exact ⟨v, r, _, G, rfl, ⟨rfl, rfl⟩, rfl, h1, h2, hr0 _ _ _ hv, WRel_grow hw (fun b hb => hw2.keep b ⟨hb, rfl⟩) hw2.size hw2.os hw2.tape hw2.output⟩

theorem bool_any {b : Bool} : ∀ (G G' : Gh) v, RepA G (.d (.bool b)) v → RepA G' (.d (.bool b)) v := fun G G' v h => by rw [h.bool_inv]; exact .d (.bool b)
theorem int_any {k : IntKind} {z : Int} : ∀ (G G' : Gh) v, RepA G (.d (.int k z)) v → RepA G' (.d (.int k z)) v := fun G G' v h => by rw [h.int_inv]; exact .d (.int k z)

section
variable {P : Program} {T : Tr} {E : Env} {o : Oper} {ρ : Operand → AV} {h h' : List AObj}
/-- A store of several cells into an owned list. -/
theorem bufStoreN (hT : TOk P T) {t i n off sz : Nat} {ti : TI} {x y : Operand} {cells cs : List AV} {vy : AV} (ho : o.op = .store t x y) (hx : ρ x = .bp i n off) (hyv : ρ y = vy) (hcs : cellsA vy = some cs) (hi : h[i]? = some (.buf sz n cells)) (hf : T.find t = some ti)
    (hlen : Nat.beq cs.length ti.size = true) (hpos : 0 < cs.length) (hlt : off + cs.length ≤ cells.length) (hh : h.set i (.buf sz n (setRun cells off cs)) = h') : OpS P E o ρ h .any h' := by
  subst hyv; subst hh
  exact OpS_of_skip fun G e w hw hr => by
    have hx' : RepA G (ρ x) (e x) := hr x (by simp [ho, Op.operands])
    have hy' : RepA G (ρ y) (e y) := hr y (by simp [ho, Op.operands])
    rw [hx] at hx'
    obtain ⟨p, cap, hp, hl⟩ := hx'.bp_inv
    obtain ⟨a', cap', hl', hlater, hb1, hb2, hb3, hb4⟩ := hw.obj i _ hi
    rw [hl] at hl'; cases hl'
    have hcap : 0 < cap := by
      rcases Nat.eq_zero_or_pos cap with h0 | h0
      · have : n = 0 := by omega
        subst this; rw [Nat.zero_mul] at hb1; omega
      · exact h0
    obtain ⟨q1, q2, q3, q4⟩ := hb4 p rfl hcap
    have hcs' : n * sz ≤ cap * sz := Nat.mul_le_mul_right _ hb2
    obtain ⟨c1, c2⟩ := cellsA_ok hy' hcs
    have hti := hT.at hf
    have hl2 := Nat.eq_of_beq_eq_true hlen
    have hspot : (p.add off).spot = none := add_spot p q1 _
    have hadd : ∀ k, (p.add off).add (0 + k) = p.add (off + k) := fun k => by rw [Nat.zero_add, add_add p q1]
    have hnl : (e y).cells.toList.length = cs.length := by simp [c1]
    obtain ⟨w', r1, r2, r3, r4, r5, r6, r7, r8, r9⟩ := store_spare (P := P) hspot (e y).cells.toList 0 w (fun k u hk => by
        have hkl : k < cs.length := by rw [← hnl]; exact (List.getElem?_eq_some_iff.1 hk).1
        exact (c2 k _ u (List.getElem?_eq_getElem hkl) (by simpa using hk)).2) (fun k hk => by
        obtain ⟨d1, d2, _⟩ := q4 (off + k) (by omega)
        rw [hadd]
        exact ⟨d1, d2⟩)
    have hne : ∀ j, (∀ k, k < cs.length → j ≠ off + k) → w'.cell? (p.add j) = w.cell? (p.add j) := fun j hj => r3 _ (fun k hk hh => by
      rw [hadd, add_off p q1, add_off p q1] at hh
      injection hh with _ h5 _
      exact hj k (by omega) (by omega))
    refine ⟨w', G, ?_, .refl G, hw.bufAt (bl := p.block) hi (.refl G) (fun _ => rfl) (fun _ => rfl) (fun _ => rfl) (fun _ _ _ => rfl) q2 (fun a u hu => ?_) (fun k hk => r5 k (by rw [add_block]; exact hk)) r6 r7 r8 r9 ?_⟩
    · unfold execOp
      have hsz' : (e y).cells.size = ti.size := by rw [c1, hl2]
      simp [ho, Instr.storeAt, hp, Instr.sureAddr, storeVar, hti.run_size, hsz', r1]
    · rw [r3 a (fun k hk hh => ?_)]
      · exact hw.imm a u hu
      · rw [hadd] at hh
        have := (q4 (off + k) (by omega)).2.2
        rw [← hh, hu] at this; cases this
    · refine ⟨some p, cap, hl, hlater, by rw [setRun_length]; exact hb1, hb2, hb3, fun p' hp' _ => ?_⟩
      cases hp'
      refine ⟨q1, q2, fun j c hj => ?_, fun j hj => ?_⟩
      · rw [setRun_at _ _ _ _ hlt] at hj
        by_cases hjo : off ≤ j ∧ j < off + cs.length
        · rw [if_pos hjo] at hj
          have hkl : j - off < (e y).cells.toList.length := by omega
          have hg := List.getElem?_eq_getElem hkl
          have := r2 (j - off) _ hg
          rw [hadd, show off + (j - off) = j by omega] at this
          have hc := c2 (j - off) c _ hj (by rw [← Array.getElem?_toList]; exact hg)
          exact ⟨_, this, hc.2, hc.1⟩
        · rw [if_neg hjo] at hj
          obtain ⟨u, u1, u2, u3⟩ := q3 j c hj
          exact ⟨u, by rw [hne j (fun k hk => by omega)]; exact u1, u2, u3⟩
      · obtain ⟨⟨u, d1⟩, d2, d3⟩ := q4 j hj
        refine ⟨?_, by rw [r4]; exact d2, d3⟩
        by_cases hjo : off ≤ j ∧ j < off + cs.length
        · have hkl : j - off < (e y).cells.toList.length := by omega
          have := r2 (j - off) _ (List.getElem?_eq_getElem hkl)
          rw [hadd, show off + (j - off) = j by omega] at this
          exact ⟨_, this⟩
        · exact ⟨u, by rw [hne j (fun k hk => by omega)]; exact d1⟩
end
end Tdoc
/- Package traveldocmill: policies out of numbers. -/
set_option linter.unusedVariables false
set_option linter.unusedSimpArgs false
namespace Tdoc
open Go Go.Proofs

/-- The next rule, and how many numbers have been given out behind it. -/
def ruleM (l : List Int) (a : Nat) : Rule × Nat :=
  if nextV l (nextA l a) 5 = 4 then (.mk (1 + nextV l a 3) true (.mk 0 0 0 []), nextA l (nextA l a))
  else (.mk (1 + nextV l a 3) false (condM l 2 0 (nextA l (nextA l a))).1, (condM l 2 0 (nextA l (nextA l a))).2)
def polL (l : List Int) : Nat → List Rule → Nat → List Rule
  | 0, acc, _ => acc
  | m + 1, acc, a => polL l m (acc ++ [(ruleM l a).1]) (ruleM l a).2
def polM (l : List Int) : List Rule := polL l (nextV l 0 5 + 1).toNat [] (nextA l 0)

theorem ruleM_le {l : List Int} {a : Nat} (h : a ≤ l.length) : (ruleM l a).2 ≤ l.length := by
  unfold ruleM
  split
  · exact nextA_le (nextA_le h)
  · exact condM_wide l 2 0 _ (nextA_le (nextA_le h))
theorem polL_length (l : List Int) : ∀ (m : Nat) (acc : List Rule) (a : Nat), (polL l m acc a).length = acc.length + m
  | 0, acc, a => rfl
  | m + 1, acc, a => by rw [polL, polL_length l m]; simp; omega
theorem polM_length (l : List Int) : (polM l).length ≤ 5 := by
  have := nextV_range (l := l) (a := 0) (n := 5) (by omega)
  rw [polM, polL_length]; simp; omega

set_option maxHeartbeats 8000000 in
set_option maxRecDepth 100000 in
theorem Policy_spec (l : List Int) (hl : l.length ≤ 1000000) : Spec Tryz.prog 8 [.d (.sl 1 (numsD .i64 l))] [] (fun r h' => r = polAV (polM l) ∧ h' = []) := by
  have hroll := Roll_spec l hl
  have hn := Next_spec l 0 5 (by omega) hl (by omega)
  have hnr := nextV_range (l := l) (a := 0) (n := 5) (by omega)
  have hna := nextA_le (l := l) (a := 0) (by omega)
  generalize hfin : polM l = fin
  unfold polM at hfin
  generalize nextV l 0 5 = n0 at hn hnr hfin
  have hn0 : n0 = (((n0 + 1).toNat : Nat) : Int) - 1 := by omega
  generalize hm0 : (n0 + 1).toNat = m0 at hn0 hfin
  refine Spec_of_body hT Tryz.func8 rfl rfl rfl rfl ?_
  intro E hE
  refine AW_room ?_
  repeat (first | refine wk hT rfl rfl ?_ | refine wd hT rfl rfl rfl ?_ | refine wz hT rfl ?_ | refine AWd_nil ?_ | refine AWk_nil ?_ | refine wh hT rfl rfl rfl rfl ?_ | refine wg hT rfl rfl rfl rfl rfl ?_ | refine AW_seq ?_ | refine AW_region ?_ | refine wx mixed ?_ | refine AW_block ?_ | refine AW_skip ?_ | refine AW_exit ?_ | refine AW_ret ?_)
  refine AWk_opF (callS rfl rfl hroll [0] (by decide) rfl rfl rfl rfl rfl rfl) rfl rfl ?_
  repeat (first | refine wk hT rfl rfl ?_ | refine wd hT rfl rfl rfl ?_ | refine wz hT rfl ?_ | refine AWd_nil ?_ | refine AWk_nil ?_ | refine wh hT rfl rfl rfl rfl ?_ | refine wg hT rfl rfl rfl rfl rfl ?_ | refine AW_seq ?_ | refine AW_region ?_ | refine wx mixed ?_ | refine AW_block ?_ | refine AW_skip ?_ | refine AW_exit ?_ | refine AW_ret ?_)
  refine AWk_op (callS1 rfl rfl hn [0] (by decide) rfl rfl rfl rfl rfl rfl rfl) rfl ?_
  repeat (first | refine wk hT rfl rfl ?_ | refine wd hT rfl rfl rfl ?_ | refine wz hT rfl ?_ | refine AWd_nil ?_ | refine AWk_nil ?_ | refine wh hT rfl rfl rfl rfl ?_ | refine wg hT rfl rfl rfl rfl rfl ?_ | refine AW_seq ?_ | refine AW_region ?_ | refine wx mixed ?_ | refine AW_block ?_ | refine AW_skip ?_ | refine AW_exit ?_ | refine AW_ret ?_)
  refine AW_room (AW_acquireH 2 0 3 6 rfl rfl rfl ?_)
  refine AW_loopC (ι := List Rule × Nat × Nat) (fun x => [(2, .ptr 1 0), (3, .ptr 0 0), (4, .ptr 2 0), (5, .d (.int .i64 ((x.2.2 : Int) - 1)))])
    (fun x => [.row (dice l x.2.1), .row [.sl 6 [] .full], .row [.sl 6 (encRs x.1) (.right 3)], .right 6 (encRs x.1).length])
    (fun x => x.2.1 ≤ l.length ∧ x.1.length + x.2.2 ≤ 5 ∧ polL l x.2.2 x.1 x.2.1 = fin) (fun x => x.2.2) ([], nextA l 0, m0) ⟨hna, by simp; omega, hfin⟩
    ⟨.refl _, .refl _, .refl _, .int hn0, trivial⟩ (HLe.refl _) ?_
  rintro ⟨acc, a, m⟩ ⟨j1, j2, j3⟩
  simp only at j1 j2 j3 ⊢
  have hlen : (encRs acc).length = acc.length := by simp [encRs]
  have k0 := Next_spec l a 3 (by omega) hl j1
  have k1 := Next_spec l (nextA l a) 5 (by omega) hl (nextA_le j1)
  have ha2 := nextA_le (nextA_le j1)
  have hr0 := nextV_range (l := l) (a := a) (n := 3) (by omega)
  have hr1 := nextV_range (l := l) (a := nextA l a) (n := 5) (by omega)
  have kc := Cond_spec l hl 2 0 (nextA l (nextA l a)) (by omega) ha2
  have hcl := condM_wide l 2 0 _ ha2
  rw [show ((2 + 1 : Nat) : Int) = 3 from rfl] at kc
  repeat (first | refine wk hT rfl rfl ?_ | refine wd hT rfl rfl rfl ?_ | refine wz hT rfl ?_ | refine AWd_nil ?_ | refine AWk_nil ?_ | refine wh hT rfl rfl rfl rfl ?_ | refine wg hT rfl rfl rfl rfl rfl ?_ | refine AW_seq ?_ | refine AW_region ?_ | refine wx mixed ?_ | refine AW_block ?_ | refine AW_skip ?_ | refine AW_exit ?_ | refine AW_ret ?_)
  refine AW_condL rfl (fun h1 => ?_) (fun h1 => ?_)
  · have h1' : 1 ≤ m := by rw [hlen] at h1; simp at h1; omega
    obtain ⟨m, rfl⟩ : ∃ m', m = m' + 1 := ⟨m - 1, by omega⟩
    have hwm : IntKind.i64.wrap (((m + 1 : Nat) : Int) - 1 - 1) = (m : Int) - 1 := by rw [wrap_id (by omega)]; omega
    rw [polL] at j3
    unfold ruleM at j3
    have hw1 : IntKind.i64.wrap (1 + nextV l a 3) = 1 + nextV l a 3 := wrap_id (by omega)
    generalize nextV l a 3 = x0 at k0 hr0 j3 hw1
    generalize nextV l (nextA l a) 5 = x1 at k1 hr1 j3
    generalize nextA l (nextA l a) = a2 at ha2 k1 kc hcl j3
    generalize condM l 2 0 a2 = p at kc hcl j3
    obtain ⟨⟨ck, cc, cv, kids⟩, a3⟩ := p
    simp only at kc hcl j3
    repeat (first | refine wk hT rfl rfl ?_ | refine wd hT rfl rfl rfl ?_ | refine wz hT rfl ?_ | refine AWd_nil ?_ | refine AWk_nil ?_ | refine wh hT rfl rfl rfl rfl ?_ | refine wg hT rfl rfl rfl rfl rfl ?_ | refine AW_seq ?_ | refine AW_region ?_ | refine wx mixed ?_ | refine AW_block ?_ | refine AW_skip ?_ | refine AW_exit ?_ | refine AW_ret ?_)
    refine AWk_op (callS1 rfl rfl k0 [0] (by decide) rfl rfl rfl rfl rfl rfl rfl) rfl ?_
    repeat (first | refine wk hT rfl rfl ?_ | refine wd hT rfl rfl rfl ?_ | refine wz hT rfl ?_ | refine AWd_nil ?_ | refine AWk_nil ?_ | refine wh hT rfl rfl rfl rfl ?_ | refine wg hT rfl rfl rfl rfl rfl ?_ | refine AW_seq ?_ | refine AW_region ?_ | refine wx mixed ?_ | refine AW_block ?_ | refine AW_skip ?_ | refine AW_exit ?_ | refine AW_ret ?_)
    refine AWk_op (callS1 rfl rfl k1 [0] (by decide) rfl rfl rfl rfl rfl rfl rfl) rfl ?_
    repeat (first | refine wk hT rfl rfl ?_ | refine wd hT rfl rfl rfl ?_ | refine wz hT rfl ?_ | refine AWd_nil ?_ | refine AWk_nil ?_ | refine wh hT rfl rfl rfl rfl ?_ | refine wg hT rfl rfl rfl rfl rfl ?_ | refine AW_seq ?_ | refine AW_region ?_ | refine wx mixed ?_ | refine AW_block ?_ | refine AW_skip ?_ | refine AW_exit ?_ | refine AW_ret ?_)
    refine AW_condL rfl (fun h2 => ?_) (fun h2 => ?_)
    · have h2' : ¬ x1 = 4 := by simpa using h2
      rw [if_neg h2'] at j3
      repeat (first | refine wk hT rfl rfl ?_ | refine wd hT rfl rfl rfl ?_ | refine wz hT rfl ?_ | refine AWd_nil ?_ | refine AWk_nil ?_ | refine wh hT rfl rfl rfl rfl ?_ | refine wg hT rfl rfl rfl rfl rfl ?_ | refine AW_seq ?_ | refine AW_region ?_ | refine wx mixed ?_ | refine AW_block ?_ | refine AW_skip ?_ | refine AW_exit ?_ | refine AW_ret ?_)
      refine AWk_op (callS1 rfl rfl kc [0] (by decide) rfl rfl rfl rfl rfl (ren_cAV _ _) rfl) rfl ?_
      repeat (first | refine wk hT rfl rfl ?_ | refine wd hT rfl rfl rfl ?_ | refine wz hT rfl ?_ | refine AWd_nil ?_ | refine AWk_nil ?_ | refine wh hT rfl rfl rfl rfl ?_ | refine wg hT rfl rfl rfl rfl rfl ?_ | refine AW_seq ?_ | refine AW_region ?_ | refine wx mixed ?_ | refine AW_block ?_ | refine AW_skip ?_ | refine AW_exit ?_ | refine AW_ret ?_)
      refine AWk_op (append_right (i := 3) hT rfl rfl rfl rfl rfl rfl (by show ((encRs acc).length + 1) * (64 + 1) ≤ 140737488355328; rw [hlen]; omega)) rfl ?_
      repeat (first | refine wk hT rfl rfl ?_ | refine wd hT rfl rfl rfl ?_ | refine wz hT rfl ?_ | refine AWd_nil ?_ | refine AWk_nil ?_ | refine wh hT rfl rfl rfl rfl ?_ | refine wg hT rfl rfl rfl rfl rfl ?_ | refine AW_seq ?_ | refine AW_region ?_ | refine wx mixed ?_ | refine AW_block ?_ | refine AW_skip ?_ | refine AW_exit ?_ | refine AW_ret ?_)
      have hd : (x1 == 4) = false := by simpa using h2'
      refine ⟨(acc ++ [.mk (1 + x0) false (.mk ck cc cv kids)], a3, m), [_], ⟨hcl, by simp only [List.length_append, List.length_singleton]; omega, j3⟩, by simp only; omega, ⟨.refl _, .refl _, .refl _, .int hwm, trivial⟩, ⟨ObLe.refl _, ObLe.refl _, ?_, ?_, ObLe.refl _, trivial⟩, Env.below_mono hE (by simp), rfl, rfl⟩
      · rw [hw1, hd]; simp only [encRs_append]; exact ObLe.refl _
      · simp only [encRs_append, List.length_append]; exact ObLe.refl _
    · have h2' : x1 = 4 := by simpa using h2
      rw [if_pos h2'] at j3
      repeat (first | refine wk hT rfl rfl ?_ | refine wd hT rfl rfl rfl ?_ | refine wz hT rfl ?_ | refine AWd_nil ?_ | refine AWk_nil ?_ | refine wh hT rfl rfl rfl rfl ?_ | refine wg hT rfl rfl rfl rfl rfl ?_ | refine AW_seq ?_ | refine AW_region ?_ | refine wx mixed ?_ | refine AW_block ?_ | refine AW_skip ?_ | refine AW_exit ?_ | refine AW_ret ?_)
      refine AWk_op (append_right (i := 3) hT rfl rfl rfl rfl rfl rfl (by show ((encRs acc).length + 1) * (64 + 1) ≤ 140737488355328; rw [hlen]; omega)) rfl ?_
      repeat (first | refine wk hT rfl rfl ?_ | refine wd hT rfl rfl rfl ?_ | refine wz hT rfl ?_ | refine AWd_nil ?_ | refine AWk_nil ?_ | refine wh hT rfl rfl rfl rfl ?_ | refine wg hT rfl rfl rfl rfl rfl ?_ | refine AW_seq ?_ | refine AW_region ?_ | refine wx mixed ?_ | refine AW_block ?_ | refine AW_skip ?_ | refine AW_exit ?_ | refine AW_ret ?_)
      have hd : (x1 == 4) = true := by simpa using h2'
      refine ⟨(acc ++ [.mk (1 + x0) true (.mk 0 0 0 [])], a2, m), [_], ⟨ha2, by simp only [List.length_append, List.length_singleton]; omega, j3⟩, by simp only; omega, ⟨.refl _, .refl _, .refl _, .int hwm, trivial⟩, ⟨ObLe.refl _, ObLe.refl _, ?_, ?_, ObLe.refl _, trivial⟩, Env.below_mono hE (by simp), rfl, rfl⟩
      · rw [hw1, hd]; simp only [encRs_append]; exact ObLe.refl _
      · simp only [encRs_append, List.length_append]; exact ObLe.refl _
  · have hm : m = 0 := by rw [hlen] at h1; simp at h1; omega
    subst hm
    rw [polL] at j3
    subst j3
    repeat (first | refine wk hT rfl rfl ?_ | refine wd hT rfl rfl rfl ?_ | refine wz hT rfl ?_ | refine AWd_nil ?_ | refine AWk_nil ?_ | refine wh hT rfl rfl rfl rfl ?_ | refine wg hT rfl rfl rfl rfl rfl ?_ | refine AW_seq ?_ | refine AW_region ?_ | refine wx mixed ?_ | refine AW_block ?_ | refine AW_skip ?_ | refine AW_exit ?_ | refine AW_ret ?_)
    first | exact rx ⟨rfl, rfl⟩ | exact rxN ⟨rfl, rfl⟩ | (refine rq ⟨rfl, rfl⟩ rfl ?_; repeat (first | exact trivial | exact AV.le.refl _ | exact AV.le.dat | exact AV.le.nils | exact AV.le.nilsf | exact AV.le.any _ | exact ObLe.refl _ | exact ⟨rfl, rfl⟩ | refine AV.le.tup ?_ | refine AV.le.agg ?_ | exact li | exact lb | exact ls | exact lk | exact ld | exact lz | refine ⟨?_, ?_⟩)) | (refine rqN ⟨rfl, rfl⟩ rfl ?_; repeat (first | exact trivial | exact AV.le.refl _ | exact AV.le.dat | exact AV.le.nils | exact AV.le.nilsf | exact AV.le.any _ | exact ObLe.refl _ | exact ⟨rfl, rfl⟩ | refine AV.le.tup ?_ | refine AV.le.agg ?_ | exact li | exact lb | exact ls | exact lk | exact ld | exact lz | refine ⟨?_, ?_⟩))
end Tdoc
/- Plain: a decision is explained, none of its reasons can be left out, and all results that agree in the reasons lead to it. -/
set_option linter.unusedVariables false
set_option linter.unusedSimpArgs false
namespace Tdoc
open Go Go.Proofs

/-! more results force what fewer force -/
theorem fR_sub {s t : List Res} (hst : SubR s t) : ∀ (r : Rule), ruleErr r = 0 → fR s r ≠ 0 → fR t r = fR s r
  | .mk v al (.mk k c w kids), he, h => by
    rw [fR_mk] at h ⊢
    rw [fR_mk]
    cases al with
    | true => rfl
    | false =>
      simp only [Bool.false_eq_true, if_false] at h ⊢
      unfold forcedP at h ⊢
      by_cases hv : validC 8 (.mk k c w kids) = true
      · rw [if_pos hv] at h
        rw [if_pos hv, if_pos hv]
        exact forced_sub hst 8 _ hv h
      · rw [if_neg hv] at h; exact absurd rfl h

theorem force_sub {s t : List Res} (hst : SubR s t) : ∀ (rs : List Rule) (i : Int), firstErr rs = 0 → forceF s i rs ≠ -2 → forceF t i rs = forceF s i rs
  | [], i, _, _ => rfl
  | r :: rs, i, he, h => by
    rw [firstErr] at he
    split at he
    · rename_i h0
      rw [forceF] at h ⊢
      rw [forceF]
      by_cases h1 : fR s r = 1
      · have := fR_sub hst r h0 (by omega)
        rw [if_pos h1, if_pos (by omega)]
      · rw [if_neg h1] at h ⊢
        by_cases h2 : fR s r = 0
        · rw [if_pos h2] at h; exact absurd rfl h
        · rw [if_neg h2] at h ⊢
          have := fR_sub hst r h0 h2
          rw [if_neg (by omega), if_neg (by omega)]
          exact force_sub hst rs (i + 1) he h
    · rename_i h0; exact absurd he h0

theorem force_full {l : List Res} (hf : FullR l) (rs : List Rule) (he : firstErr rs = 0) : -1 ≤ forceF l 0 rs := by
  have h : ∀ (rs : List Rule) (i : Int), 0 ≤ i → firstErr rs = 0 → -1 ≤ forceF l i rs := by
    intro rs
    induction rs with
    | nil => intro i _ _; simp [forceF]
    | cons r rs ih =>
      intro i hi he
      rw [firstErr] at he
      split at he
      · rename_i h0
        rw [forceF]
        have hne : fR l r ≠ 0 := by
          obtain ⟨v, al, ⟨k, c, w, kids⟩⟩ := r
          rw [fR_mk]
          cases al with
          | true => simp
          | false =>
            unfold ruleErr at h0
            simp only [Bool.false_eq_true, false_and, if_false, true_and] at h0
            have hv : validC 8 (.mk k c w kids) = true := by
              split at h0
              · cases h0
              · split at h0
                · cases h0
                · rename_i h1; simpa using h1
            simp only [Bool.false_eq_true, if_false, forcedP, hv, if_true]
            exact (forced_full hf 8 _ hv).1
        by_cases h1 : fR l r = 1
        · rw [if_pos h1]; omega
        · rw [if_neg h1, if_neg hne]
          exact ih (i + 1) (by omega) he
      · rename_i h0; exact absurd he h0
  exact h rs 0 (by omega) he

/-! proper lists -/
theorem proper_mono {p q : Int} (hpq : p ≤ q) : ∀ {l : List Res}, properF q l = true → properF p l = true
  | [], _ => rfl
  | r :: l, h => by
    rw [properF] at h ⊢
    split at h
    · cases h
    · rename_i h1
      rw [if_neg (by omega)]; exact h

theorem proper_cons {p : Int} {r : Res} {l : List Res} (h : properF p (r :: l) = true) : 1 ≤ r.1 ∧ r.1 ≤ 13 ∧ 1 ≤ r.2 ∧ r.2 ≤ 4 ∧ p < r.1 ∧ properF r.1 l = true := by
  rw [properF] at h
  split at h
  · cases h
  · rename_i h1
    exact ⟨by omega, by omega, by omega, by omega, by omega, h⟩

theorem proper_sub {l l' : List Res} (hs : List.Sublist l' l) : ∀ {p : Int}, properF p l = true → properF p l' = true := by
  induction hs with
  | slnil => intro p h; exact h
  | cons a _ ih => intro p h; have := proper_cons h; exact proper_mono (by omega) (ih this.2.2.2.2.2)
  | cons_cons a _ ih =>
    intro p h
    have := proper_cons h
    rw [properF, if_neg (by omega)]
    exact ih this.2.2.2.2.2

theorem properF_mem : ∀ {l : List Res} {p : Int}, properF p l = true → ∀ r, r ∈ l → 1 ≤ r.1 ∧ r.1 ≤ 13 ∧ 1 ≤ r.2 ∧ r.2 ≤ 4 ∧ p < r.1
  | [], p, _, r, hr => by cases hr
  | a :: l, p, h, r, hr => by
    have ha := proper_cons h
    rcases List.mem_cons.1 hr with rfl | hr
    · exact ⟨ha.1, ha.2.1, ha.2.2.1, ha.2.2.2.1, ha.2.2.2.2.1⟩
    · have := properF_mem ha.2.2.2.2.2 r hr
      exact ⟨this.1, this.2.1, this.2.2.1, this.2.2.2.1, by omega⟩

theorem proper_valOf : ∀ {l : List Res} {p : Int}, properF p l = true → ∀ r, r ∈ l → valOf r.1 l = some r.2
  | [], p, _, r, hr => by cases hr
  | a :: l, p, h, r, hr => by
    have ha := proper_cons h
    unfold valOf
    rcases List.mem_cons.1 hr with rfl | hr
    · simp
    · have hm := properF_mem ha.2.2.2.2.2 r hr
      have hne : (a.1 == r.1) = false := by simp; omega
      rw [List.find?_cons, hne]
      exact proper_valOf ha.2.2.2.2.2 r hr

theorem valOf_mem {l : List Res} {ch v : Int} (h : valOf ch l = some v) : (ch, v) ∈ l := by
  unfold valOf at h
  simp only [Option.map_eq_some_iff] at h
  obtain ⟨r, hr, rfl⟩ := h
  have hc := List.find?_some hr
  have : r.1 = ch := by simpa using hc
  rw [← this]
  exact List.mem_of_find?_eq_some hr

theorem sub_of_list {s t : List Res} {p : Int} (ht : properF p t = true) (h : ∀ r, r ∈ s → r ∈ t) : SubR s t := fun ch v hv =>
  proper_valOf ht (ch, v) (h _ (valOf_mem hv))

/-! what the search leaves -/
theorem erase_comm {α : Type} : ∀ (l : List α) (k i : Nat), k ≤ i → (l.eraseIdx k).eraseIdx i = (l.eraseIdx (i + 1)).eraseIdx k
  | [], k, i, _ => by simp
  | a :: l, 0, i, _ => by simp
  | a :: l, k + 1, 0, h => by omega
  | a :: l, k + 1, i + 1, h => by simp [erase_comm l k i (by omega)]

theorem minF_sub (rs : List Rule) (rule : Int) : ∀ (k : Nat) (l : List Res), List.Sublist (minF rs rule k l) l
  | 0, l => by rw [minF]; exact List.Sublist.refl _
  | k + 1, l => by
    rw [minF]
    split
    · exact (minF_sub rs rule k _).trans (List.eraseIdx_sublist ..)
    · exact minF_sub rs rule k _

theorem minF_force (rs : List Rule) (rule : Int) : ∀ (k : Nat) (l : List Res), forceF l 0 rs = rule → forceF (minF rs rule k l) 0 rs = rule
  | 0, l, h => by rw [minF]; exact h
  | k + 1, l, h => by
    rw [minF]
    split
    · rename_i h1; exact minF_force rs rule k _ h1
    · exact minF_force rs rule k _ h

theorem minF_least (rs : List Rule) (rule : Int) (he : firstErr rs = 0) (hr : rule ≠ -2) : ∀ (k : Nat) (l : List Res) (p : Int), properF p l = true → (∀ i, k ≤ i → i < l.length → forceF (l.eraseIdx i) 0 rs ≠ rule) →
    ∀ i, i < (minF rs rule k l).length → forceF ((minF rs rule k l).eraseIdx i) 0 rs ≠ rule
  | 0, l, p, hp, h, i, hi => by rw [minF] at hi ⊢; exact h i (by omega) hi
  | k + 1, l, p, hp, h, i, hi => by
    rw [minF] at hi ⊢
    split at hi
    · rename_i h1
      rw [if_pos h1]
      refine minF_least rs rule he hr k (l.eraseIdx k) p (proper_sub (List.eraseIdx_sublist ..) hp) (fun j hj1 hj2 => ?_) i hi
      intro hf
      have hlen : (l.eraseIdx k).length = l.length - 1 ∨ (l.eraseIdx k).length = l.length := by
        rw [List.length_eraseIdx]; split <;> simp
      by_cases hkl : k < l.length
      · have hl2 : (l.eraseIdx k).length = l.length - 1 := List.length_eraseIdx_of_lt hkl
        have hs : SubR ((l.eraseIdx k).eraseIdx j) (l.eraseIdx (j + 1)) := by
          rw [erase_comm l k j hj1]
          exact sub_of_list (proper_sub (List.eraseIdx_sublist ..) hp) fun r hr => (List.eraseIdx_sublist ..).subset hr
        have := force_sub hs rs 0 he (by rw [hf]; exact hr)
        exact h (j + 1) (by omega) (by omega) (by rw [this, hf])
      · rw [List.eraseIdx_of_length_le (by omega)] at hj2
        omega
    · rename_i h1
      rw [if_neg h1]
      refine minF_least rs rule he hr k l p hp (fun j hj1 hj2 => ?_) i hi
      by_cases hjk : j = k
      · subst hjk; exact h1
      · exact h j (by omega) hj2

/-! all results, one for each check -/
def Nat13 (o : List Res) : Prop := o.length = 13 ∧ ∀ (i : Nat) (h : i < o.length), o[i].1 = ((i + 1 : Nat) : Int) ∧ 1 ≤ o[i].2 ∧ o[i].2 ≤ 4

theorem proper_at : ∀ (l : List Res) (k : Nat), k + l.length ≤ 13 → (∀ (i : Nat) (h : i < l.length), l[i].1 = ((k + i + 1 : Nat) : Int) ∧ 1 ≤ l[i].2 ∧ l[i].2 ≤ 4) → properF (k : Int) l = true
  | [], k, _, _ => rfl
  | a :: l, k, hk, h => by
    have h0 := h 0 (by simp)
    simp only [List.getElem_cons_zero, Nat.add_zero] at h0
    simp only [List.length_cons] at hk
    rw [properF, if_neg (by omega), h0.1]
    refine proper_at l (k + 1) (by omega) fun i hi => ?_
    have := h (i + 1) (by simp; omega)
    simp only [List.getElem_cons_succ] at this
    rw [show k + 1 + i + 1 = k + (i + 1) + 1 by omega]; exact this
theorem Nat13.proper {o : List Res} (h : Nat13 o) : properF 0 o = true := proper_at o 0 (by have := h.1; omega) (by simpa using h.2)
theorem Nat13.full {o : List Res} (h : Nat13 o) : FullR o := fun ch h1 h2 => by
  have hl := h.1
  have hx := h.2 (ch.toNat - 1) (by omega)
  have hm : o[ch.toNat - 1]'(by omega) ∈ o := List.getElem_mem _
  have := proper_valOf h.proper _ hm
  rw [hx.1, show (((ch.toNat - 1 + 1 : Nat) : Int)) = ch by omega] at this
  exact ⟨_, this⟩
theorem Nat13.at {o : List Res} (h : Nat13 o) {r : Res} (hr : r ∈ o) : ∃ (i : Nat) (hi : i < o.length), r.1 = ((i + 1 : Nat) : Int) ∧ o[i] = r := by
  obtain ⟨i, hi, rfl⟩ := List.getElem_of_mem hr
  exact ⟨i, hi, (h.2 i hi).1, rfl⟩
theorem Nat13.set {o : List Res} (h : Nat13 o) {i : Nat} {r : Res} (h1 : r.1 = ((i + 1 : Nat) : Int)) (h2 : 1 ≤ r.2 ∧ r.2 ≤ 4) : Nat13 (o.set i r) := by
  refine ⟨by rw [List.length_set]; exact h.1, fun j hj => ?_⟩
  rw [List.getElem_set]
  rw [List.length_set] at hj
  by_cases hij : i = j
  · subst hij; simp only [if_true]; exact ⟨h1, h2⟩
  · rw [if_neg hij]; exact h.2 j hj
theorem resM_nat (l : List Int) : Nat13 (resM l 13) := by
  refine ⟨by simp [resM], fun i hi => ?_⟩
  have hr := nextV_range (l := l) (a := min i l.length) (n := 4) (by omega)
  have he : (resM l 13)[i] = (((i + 1 : Nat) : Int), 1 + nextV l (min i l.length) 4) := by simp [resM]
  rw [he]
  exact ⟨rfl, by simp only; omega, by simp only; omega⟩

/-- Results in which some are replaced. -/
def ovr : List Res → List Res → List Res
  | o, [] => o
  | o, r :: rs => ovr (o.set (r.1 - 1).toNat r) rs
theorem ovr_nat : ∀ (rs : List Res) (o : List Res) (p : Int), Nat13 o → properF p rs = true → Nat13 (ovr o rs)
  | [], o, p, h, _ => h
  | r :: rs, o, p, h, hp => by
    have := proper_cons hp
    rw [ovr]
    exact ovr_nat rs _ r.1 (h.set (by omega) ⟨this.2.2.1, this.2.2.2.1⟩) this.2.2.2.2.2
theorem ovr_keep : ∀ (rs : List Res) (o : List Res) (p : Int) (j : Nat), properF p rs = true → ((j + 1 : Nat) : Int) ≤ p → (ovr o rs)[j]? = o[j]?
  | [], o, p, j, _, _ => rfl
  | r :: rs, o, p, j, hp, hj => by
    have := proper_cons hp
    rw [ovr, ovr_keep rs _ r.1 j this.2.2.2.2.2 (by omega), List.getElem?_set_ne (by omega)]
theorem ovr_mem : ∀ (rs : List Res) (o : List Res) (p : Int), Nat13 o → properF p rs = true → ∀ r, r ∈ rs → r ∈ ovr o rs
  | [], o, p, _, _, r, hr => by cases hr
  | a :: rs, o, p, h, hp, r, hr => by
    have ha := proper_cons hp
    have hset := h.set (i := (a.1 - 1).toNat) (r := a) (by omega) ⟨ha.2.2.1, ha.2.2.2.1⟩
    rw [ovr]
    rcases List.mem_cons.1 hr with rfl | hr
    · have hk := ovr_keep rs (o.set (r.1 - 1).toNat r) r.1 (r.1 - 1).toNat ha.2.2.2.2.2 (by omega)
      rw [List.getElem?_set_self (by have := h.1; omega)] at hk
      exact List.mem_of_getElem? hk
    · exact ovr_mem rs _ a.1 hset ha.2.2.2.2.2 r hr
theorem ovr_length : ∀ (rs o : List Res), (ovr o rs).length = o.length
  | [], o => rfl
  | r :: rs, o => by rw [ovr, ovr_length rs]; simp

/-! decisions of all results -/
theorem decideF_ok {rs : List Rule} {l : List Res} (hv : validPol rs = 0) (hl : Nat13 l) : decideF rs l = (⟨verdF rs (forceF l 0 rs), forceF l 0 rs, minF rs (forceF l 0 rs) l.length l⟩, 0) := by
  unfold decideF
  rw [if_neg (by omega), if_neg (by rw [hl.proper]; have := hl.1; simp; omega)]

theorem validPol_zero {rs : List Rule} (hv : validPol rs = 0) : rs.length ≤ 32 ∧ firstErr rs = 0 := by
  unfold validPol at hv
  split at hv
  · cases hv
  · exact ⟨by omega, hv⟩

theorem firstErr_mem : ∀ {rs : List Rule}, firstErr rs = 0 → ∀ r, r ∈ rs → ruleErr r = 0
  | [], _, r, hr => by cases hr
  | a :: rs, h, r, hr => by
    rw [firstErr] at h
    split at h
    · rename_i h0
      rcases List.mem_cons.1 hr with rfl | hr
      · exact h0
      · exact firstErr_mem h r hr
    · rename_i h0; exact absurd h h0

theorem verdF_range {rs : List Rule} (he : firstErr rs = 0) {rule : Int} (hr : rule < rs.length) : 1 ≤ verdF rs rule ∧ verdF rs rule ≤ 3 := by
  unfold verdF
  split
  · omega
  · rename_i h0
    have hlt : rule.toNat < rs.length := by omega
    rw [List.getElem?_eq_getElem hlt]
    have := firstErr_mem he _ (List.getElem_mem hlt)
    generalize rs[rule.toNat] = r at this
    obtain ⟨v, al, ⟨k, c, w, kids⟩⟩ := r
    simp only
    unfold ruleErr at this
    simp only at this
    by_cases hv : v < 1 ∨ v > 3
    · rw [if_pos hv] at this; exact absurd this (by decide)
    · omega

theorem decide_expl {rs : List Rule} {l : List Res} (hv : validPol rs = 0) (hl : Nat13 l) : explF rs (decideF rs l).1 = true := by
  have hz := validPol_zero hv
  have hf := force_full hl.full rs hz.2
  rw [decideF_ok hv hl]
  unfold explF
  simp only [Bool.and_eq_true, decide_eq_true_eq]
  exact ⟨⟨⟨⟨hv, proper_sub (minF_sub _ _ _ _) hl.proper⟩, hf⟩, minF_force rs _ _ _ rfl⟩, trivial⟩

theorem decide_textOk {rs : List Rule} {l : List Res} (hv : validPol rs = 0) (hl : Nat13 l) : textOk (decideF rs l).1 = true := by
  have hz := validPol_zero hv
  have hf := force_full hl.full rs hz.2
  have hrg := forceF_range l rs 0
  have hvr := verdF_range hz.2 (rule := forceF l 0 rs) (by omega)
  rw [decideF_ok hv hl]
  unfold textOk
  simp only [Bool.and_eq_true, decide_eq_true_eq]
  exact ⟨⟨hvr.1, hvr.2, hf, by omega⟩, proper_sub (minF_sub _ _ _ _) hl.proper⟩

theorem decide_least {rs : List Rule} {l : List Res} (hv : validPol rs = 0) (hl : Nat13 l) (i : Nat) (hi : i < (decideF rs l).1.rs.length) : explF rs { (decideF rs l).1 with rs := (decideF rs l).1.rs.eraseIdx i } = false := by
  have hz := validPol_zero hv
  have hf := force_full hl.full rs hz.2
  rw [decideF_ok hv hl] at hi ⊢
  have := minF_least rs (forceF l 0 rs) hz.2 (by omega) l.length l 0 hl.proper (fun i h1 h2 => by omega) i hi
  unfold explF
  simp only
  rw [decide_eq_false this]
  simp

theorem decide_mem {rs : List Rule} {l : List Res} (hv : validPol rs = 0) (hl : Nat13 l) : ∀ r, r ∈ (decideF rs l).1.rs → r ∈ l := by
  rw [decideF_ok hv hl]
  exact fun r hr => (minF_sub _ _ _ _).subset hr

theorem decide_proper {rs : List Rule} {l : List Res} (hv : validPol rs = 0) (hl : Nat13 l) : properF 0 (decideF rs l).1.rs = true := by
  rw [decideF_ok hv hl]
  exact proper_sub (minF_sub _ _ _ _) hl.proper

/-- All results that agree in the reasons lead to the decision. -/
theorem decide_agree {rs : List Rule} {l o : List Res} (hv : validPol rs = 0) (hl : Nat13 l) (ho : Nat13 o) :
    (decideF rs (ovr o (decideF rs l).1.rs)).2 = 0 ∧ (decideF rs (ovr o (decideF rs l).1.rs)).1.v = (decideF rs l).1.v ∧ (decideF rs (ovr o (decideF rs l).1.rs)).1.rule = (decideF rs l).1.rule := by
  have hz := validPol_zero hv
  have hf := force_full hl.full rs hz.2
  have hp := decide_proper hv hl
  have hn := ovr_nat _ o 0 ho hp
  have hs : SubR (decideF rs l).1.rs (ovr o (decideF rs l).1.rs) := sub_of_list hn.proper (ovr_mem _ o 0 ho hp)
  have hm : forceF (decideF rs l).1.rs 0 rs = forceF l 0 rs := by
    rw [decideF_ok hv hl]; exact minF_force rs _ _ _ rfl
  have := force_sub hs rs 0 hz.2 (by rw [hm]; omega)
  rw [hm] at this
  rw [decideF_ok hv hn, decideF_ok hv hl] at *
  simp only at *
  rw [this]
  exact ⟨trivial, rfl, rfl⟩
end Tdoc
/- Plain: policies out of numbers are valid; a result that is replaced. -/
set_option linter.unusedVariables false
set_option linter.unusedSimpArgs false
namespace Tdoc
open Go Go.Proofs

theorem ruleErr_always (v : Int) (h : 1 ≤ v ∧ v ≤ 3) : ruleErr (.mk v true (.mk 0 0 0 [])) = 0 := by
  unfold ruleErr
  simp
  omega
theorem ruleErr_cond {v : Int} {c : Cond} (h : 1 ≤ v ∧ v ≤ 3) (hc : validC 8 c = true) : ruleErr (.mk v false c) = 0 := by
  obtain ⟨k, ch, w, kids⟩ := c
  unfold ruleErr
  simp [hc]
  omega

theorem ruleM_ok {l : List Int} {a : Nat} (h : a ≤ l.length) : ruleErr (ruleM l a).1 = 0 ∧ smallC (condR (ruleM l a).1) := by
  have hr := nextV_range (l := l) (a := a) (n := 3) (by omega)
  have ha := nextA_le (nextA_le h)
  unfold ruleM
  split
  · exact ⟨ruleErr_always _ (by omega), by simp [condR, smallC, smallCs]⟩
  · have hc := condM_ok l 2 0 _ ha
    exact ⟨ruleErr_cond (by omega) (validC_le (by omega) hc.2.1), hc.2.2.1⟩

theorem polL_ok {l : List Int} : ∀ (m : Nat) (acc : List Rule) (a : Nat), a ≤ l.length → (∀ r, r ∈ acc → ruleErr r = 0 ∧ smallC (condR r)) → ∀ r, r ∈ polL l m acc a → ruleErr r = 0 ∧ smallC (condR r)
  | 0, acc, a, _, h => h
  | m + 1, acc, a, ha, h => by
    rw [polL]
    refine polL_ok m _ _ (ruleM_le ha) fun r hr => ?_
    rcases List.mem_append.1 hr with hr | hr
    · exact h r hr
    · simp at hr; subst hr; exact ruleM_ok ha
theorem polM_ok (l : List Int) : ∀ r, r ∈ polM l → ruleErr r = 0 ∧ smallC (condR r) := polL_ok _ _ _ (nextA_le (by omega)) (fun r hr => by cases hr)

theorem firstErr_of : ∀ {rs : List Rule}, (∀ r, r ∈ rs → ruleErr r = 0) → firstErr rs = 0
  | [], _ => rfl
  | r :: rs, h => by rw [firstErr, if_pos (h r (by simp))]; exact firstErr_of fun x hx => h x (by simp [hx])
theorem polM_valid (l : List Int) : validPol (polM l) = 0 := by
  have := polM_length l
  unfold validPol
  rw [if_neg (by omega)]
  exact firstErr_of fun r hr => (polM_ok l r hr).1

/-! an owned list in which one result is replaced -/
theorem setRun_two (cs : List AV) (off : Nat) (a b : AV) : setRun cs off [a, b] = (cs.set off a).set (off + 1) b := rfl
theorem rowR_set : ∀ (l : List Res) (k : Nat) (r : Res), setRun (rowR l) (k * 2) [.d (.int .i64 r.1), .d (.int .i64 r.2)] = rowR (l.set k r)
  | [], k, r => by simp [rowR, flatAV, encRes, setRun]
  | a :: l, 0, r => by simp [setRun_two, rowR_cons]
  | a :: l, k + 1, r => by
    have ih := rowR_set l k r
    rw [setRun_two] at ih ⊢
    rw [rowR_cons, List.set_cons_succ, rowR_cons, ← ih]
    rw [show (k + 1) * 2 = k * 2 + 1 + 1 by omega]
    simp
theorem ovr_append : ∀ (a : List Res) (o : List Res) (r : Res), ovr o (a ++ [r]) = (ovr o a).set (r.1 - 1).toNat r
  | [], o, r => rfl
  | x :: a, o, r => by rw [List.cons_append, ovr, ovr, ovr_append a]
theorem ovr_take (o rs : List Res) (i : Nat) (h : i < rs.length) : ovr o (rs.take (i + 1)) = (ovr o (rs.take i)).set (rs[i].1 - 1).toNat rs[i] := by
  rw [List.take_succ_eq_append_getElem h, ovr_append]

theorem erase_cut (l : List Res) (k : Nat) (hw : IntKind.i64.wrap ((k : Int) + 1) = ((k + 1 : Nat) : Int)) :
    encRes (l.eraseIdx k) = (encRes l).take ((k : Int)).toNat ++ (encRes l).drop (IntKind.i64.wrap ((k : Int) + 1)).toNat := by
  rw [hw, Int.toNat_natCast, Int.toNat_natCast]
  simp only [encRes]
  rw [← List.map_take, ← List.map_drop, ← List.map_append, List.eraseIdx_eq_take_drop_succ]
end Tdoc
/- DecisionMinimal: always true. -/
set_option linter.unusedVariables false
set_option linter.unusedSimpArgs false
namespace Tdoc
open Go Go.Proofs

set_option maxHeartbeats 8000000 in
set_option maxRecDepth 100000 in
theorem decisionMinimal_spec (l rl ol : List Int) (hl0 : l.length ≤ 9223372036854775807) (hrl0 : rl.length ≤ 9223372036854775807) (hol0 : ol.length ≤ 9223372036854775807) :
    Spec Tryz.prog 5 [.d (.sl 1 (numsD .i64 l)), .d (.sl 1 (numsD .i64 rl)), .d (.sl 1 (numsD .i64 ol))] [] (fun r h' => r = .d (.bool true) ∧ h' = []) := by
  have haw := awake38_spec
  have hL1 := Light_spec l
  have hL2 := Light_spec rl
  have hL3 := Light_spec ol
  have hv := polM_valid l
  have hsm : ∀ r, r ∈ polM l → smallC (condR r) := fun r hr => (polM_ok l r hr).2
  have hpl := polM_length l
  have hrr := resM_nat rl
  have hoo := resM_nat ol
  have hpo := fun h => Policy_spec l h
  have hre := fun h => Results_spec rl h
  have hro := fun h => ResultsO_spec ol h
  generalize polM l = rs at *
  generalize resM rl 13 = rr at *
  generalize resM ol 13 = oo at *
  have hd := Decide_spec rs rr (by have := hrr.1; omega) (by omega) hsm
  have q0 : (decideF rs rr).2 = 0 := by rw [decideF_ok hv hrr]
  have q1 := decide_expl hv hrr
  have q2 := decide_textOk hv hrr
  have q3 := fun i hi => decide_least hv hrr i hi
  have q4 := decide_mem hv hrr
  have q5 := decide_proper hv hrr
  have q6 := decide_agree hv hrr hoo
  generalize decideF rs rr = D at *
  obtain ⟨⟨v, rule, us⟩, n⟩ := D
  simp only at q0 q1 q2 q3 q4 q5 q6 hd
  subst q0
  have hul := proper_len us 0 (by omega) q5
  simp only [show (0 : Int) ≤ 13 from by omega, if_true] at hul
  have hum := properF_mem q5
  have hq2 := q2
  unfold textOk at hq2
  simp only [Bool.and_eq_true, decide_eq_true_eq] at hq2
  have hx := Explains_spec rs ⟨v, rule, us⟩ (by simp only; omega) (by omega) hsm
  rw [q1] at hx
  have hxl := fun i (hi : i < us.length) => Explains_spec rs ⟨v, rule, us.eraseIdx i⟩ (by simp only; have := List.length_eraseIdx_of_lt hi; omega) (by omega) hsm
  have ht := Text_spec ⟨v, rule, us⟩ (by simp only; omega) (by simp only; omega) (by simp only; omega) (fun r hr => by have := hum r hr; omega)
  have hrd := Read_spec (textF ⟨v, rule, us⟩) (textF_len _ q2)
  rw [(read_of q2).1] at hrd
  have hs := Same_spec ⟨v, rule, us⟩ ⟨v, rule, us⟩ (by simp only; omega) (by simp only; omega)
  simp only [decide_true, Bool.and_self] at hs
  have hno := ovr_nat us oo 0 hoo q5
  have hd2 := Decide_spec rs (ovr oo us) (by have := hno.1; omega) (by omega) hsm
  generalize decideF rs (ovr oo us) = Y at *
  obtain ⟨⟨v', rule', us'⟩, n'⟩ := Y
  simp only at q6 hd2
  obtain ⟨rfl, rfl, rfl⟩ := q6
  have hll1 := numsD_length .i64 l
  have hulen := encRes_length us
  generalize textF ⟨v', rule', us⟩ = tx at ht hrd
  unfold decAV decCells at *
  simp only at *
  unfold polAV at *
  generalize encRs rs = rp at *
  generalize encRes us' = lu' at *
  generalize hnl : numsD .i64 l = nl at *
  generalize hnr : numsD .i64 rl = nr at *
  generalize hno' : numsD .i64 ol = no at *
  refine Spec_of_body hT Tryz.func5 rfl rfl rfl rfl ?_
  intro E hE
  refine AW_room ?_
  repeat (first | refine wk hT rfl rfl ?_ | refine wd hT rfl rfl rfl ?_ | refine wz hT rfl ?_ | refine AWd_nil ?_ | refine AWk_nil ?_ | refine wh hT rfl rfl rfl rfl ?_ | refine wg hT rfl rfl rfl rfl rfl ?_ | refine AW_seq ?_ | refine AW_region ?_ | refine wx mixed ?_ | refine AW_block ?_ | refine AW_skip ?_ | refine AW_exit ?_ | refine AW_ret ?_)
  first | refine AWk_op (callS0 rfl rfl (hL1) rfl rfl rfl) rfl ?_ | refine AWd_op (callS0 rfl rfl (hL1) rfl rfl rfl) rfl rfl ?_ | refine AWk_op (callS0L rfl rfl (hL1) rfl (by repeat (first | exact trivial | exact AV.le.refl _ | exact AV.le.dat | exact AV.le.nils | exact AV.le.nilsf | exact AV.le.any _ | exact ObLe.refl _ | exact ⟨rfl, rfl⟩ | refine AV.le.tup ?_ | refine AV.le.agg ?_ | exact li | exact lb | exact ls | exact lk | exact ld | exact lz | refine ⟨?_, ?_⟩)) rfl rfl) rfl ?_ | refine AWd_op (callS0L rfl rfl (hL1) rfl (by repeat (first | exact trivial | exact AV.le.refl _ | exact AV.le.dat | exact AV.le.nils | exact AV.le.nilsf | exact AV.le.any _ | exact ObLe.refl _ | exact ⟨rfl, rfl⟩ | refine AV.le.tup ?_ | refine AV.le.agg ?_ | exact li | exact lb | exact ls | exact lk | exact ld | exact lz | refine ⟨?_, ?_⟩)) rfl rfl) rfl rfl ?_
  repeat (first | refine wk hT rfl rfl ?_ | refine wd hT rfl rfl rfl ?_ | refine wz hT rfl ?_ | refine AWd_nil ?_ | refine AWk_nil ?_ | refine wh hT rfl rfl rfl rfl ?_ | refine wg hT rfl rfl rfl rfl rfl ?_ | refine AW_seq ?_ | refine AW_region ?_ | refine wx mixed ?_ | refine AW_block ?_ | refine AW_skip ?_ | refine AW_exit ?_ | refine AW_ret ?_)
  first | refine AWk_gop rfl rfl rfl (fun hg => ⟨(sg (C := True) hg).1, callS0 rfl rfl (hL2) rfl rfl rfl⟩) ?_ | refine AWd_gop rfl rfl rfl rfl (fun hg => ⟨(sg (C := True) hg).1, callS0 rfl rfl (hL2) rfl rfl rfl⟩) ?_
  repeat (first | refine wk hT rfl rfl ?_ | refine wd hT rfl rfl rfl ?_ | refine wz hT rfl ?_ | refine AWd_nil ?_ | refine AWk_nil ?_ | refine wh hT rfl rfl rfl rfl ?_ | refine wg hT rfl rfl rfl rfl rfl ?_ | refine AW_seq ?_ | refine AW_region ?_ | refine wx mixed ?_ | refine AW_block ?_ | refine AW_skip ?_ | refine AW_exit ?_ | refine AW_ret ?_)
  first | refine AWk_gop rfl rfl rfl (fun hg => ⟨(sg (C := True) hg).1, callS0 rfl rfl (hL3) rfl rfl rfl⟩) ?_ | refine AWd_gop rfl rfl rfl rfl (fun hg => ⟨(sg (C := True) hg).1, callS0 rfl rfl (hL3) rfl rfl rfl⟩) ?_
  repeat (first | refine wk hT rfl rfl ?_ | refine wd hT rfl rfl rfl ?_ | refine wz hT rfl ?_ | refine AWd_nil ?_ | refine AWk_nil ?_ | refine wh hT rfl rfl rfl rfl ?_ | refine wg hT rfl rfl rfl rfl rfl ?_ | refine AW_seq ?_ | refine AW_region ?_ | refine wx mixed ?_ | refine AW_block ?_ | refine AW_skip ?_ | refine AW_exit ?_ | refine AW_ret ?_)
  refine AW_condL rfl (fun h1 => ?_) (fun h1 => ?_)
  · repeat (first | refine wk hT rfl rfl ?_ | refine wd hT rfl rfl rfl ?_ | refine wz hT rfl ?_ | refine AWd_nil ?_ | refine AWk_nil ?_ | refine wh hT rfl rfl rfl rfl ?_ | refine wg hT rfl rfl rfl rfl rfl ?_ | refine AW_seq ?_ | refine AW_region ?_ | refine wx mixed ?_ | refine AW_block ?_ | refine AW_skip ?_ | refine AW_exit ?_ | refine AW_ret ?_)
    first | refine AWk_op (callS0 rfl rfl (haw) rfl rfl rfl) rfl ?_ | refine AWd_op (callS0 rfl rfl (haw) rfl rfl rfl) rfl rfl ?_ | refine AWk_op (callS0L rfl rfl (haw) rfl (by repeat (first | exact trivial | exact AV.le.refl _ | exact AV.le.dat | exact AV.le.nils | exact AV.le.nilsf | exact AV.le.any _ | exact ObLe.refl _ | exact ⟨rfl, rfl⟩ | refine AV.le.tup ?_ | refine AV.le.agg ?_ | exact li | exact lb | exact ls | exact lk | exact ld | exact lz | refine ⟨?_, ?_⟩)) rfl rfl) rfl ?_ | refine AWd_op (callS0L rfl rfl (haw) rfl (by repeat (first | exact trivial | exact AV.le.refl _ | exact AV.le.dat | exact AV.le.nils | exact AV.le.nilsf | exact AV.le.any _ | exact ObLe.refl _ | exact ⟨rfl, rfl⟩ | refine AV.le.tup ?_ | refine AV.le.agg ?_ | exact li | exact lb | exact ls | exact lk | exact ld | exact lz | refine ⟨?_, ?_⟩)) rfl rfl) rfl rfl ?_
    repeat (first | refine wk hT rfl rfl ?_ | refine wd hT rfl rfl rfl ?_ | refine wz hT rfl ?_ | refine AWd_nil ?_ | refine AWk_nil ?_ | refine wh hT rfl rfl rfl rfl ?_ | refine wg hT rfl rfl rfl rfl rfl ?_ | refine AW_seq ?_ | refine AW_region ?_ | refine wx mixed ?_ | refine AW_block ?_ | refine AW_skip ?_ | refine AW_exit ?_ | refine AW_ret ?_)
    exact rq ⟨rfl, rfl⟩ rfl (.refl _)
  · have h1' : l.length ≤ 80 ∧ rl.length ≤ 80 ∧ ol.length ≤ 80 := by simp at h1; omega
    have hpo := hpo (by omega)
    have hre := hre (by omega)
    have hro := hro (by omega)
    repeat (first | refine wk hT rfl rfl ?_ | refine wd hT rfl rfl rfl ?_ | refine wz hT rfl ?_ | refine AWd_nil ?_ | refine AWk_nil ?_ | refine wh hT rfl rfl rfl rfl ?_ | refine wg hT rfl rfl rfl rfl rfl ?_ | refine AW_seq ?_ | refine AW_region ?_ | refine wx mixed ?_ | refine AW_block ?_ | refine AW_skip ?_ | refine AW_exit ?_ | refine AW_ret ?_)
    first | refine AWk_op (callS0 rfl rfl (hpo) rfl rfl rfl) rfl ?_ | refine AWd_op (callS0 rfl rfl (hpo) rfl rfl rfl) rfl rfl ?_ | refine AWk_op (callS0L rfl rfl (hpo) rfl (by repeat (first | exact trivial | exact AV.le.refl _ | exact AV.le.dat | exact AV.le.nils | exact AV.le.nilsf | exact AV.le.any _ | exact ObLe.refl _ | exact ⟨rfl, rfl⟩ | refine AV.le.tup ?_ | refine AV.le.agg ?_ | exact li | exact lb | exact ls | exact lk | exact ld | exact lz | refine ⟨?_, ?_⟩)) rfl rfl) rfl ?_ | refine AWd_op (callS0L rfl rfl (hpo) rfl (by repeat (first | exact trivial | exact AV.le.refl _ | exact AV.le.dat | exact AV.le.nils | exact AV.le.nilsf | exact AV.le.any _ | exact ObLe.refl _ | exact ⟨rfl, rfl⟩ | refine AV.le.tup ?_ | refine AV.le.agg ?_ | exact li | exact lb | exact ls | exact lk | exact ld | exact lz | refine ⟨?_, ?_⟩)) rfl rfl) rfl rfl ?_
    repeat (first | refine wk hT rfl rfl ?_ | refine wd hT rfl rfl rfl ?_ | refine wz hT rfl ?_ | refine AWd_nil ?_ | refine AWk_nil ?_ | refine wh hT rfl rfl rfl rfl ?_ | refine wg hT rfl rfl rfl rfl rfl ?_ | refine AW_seq ?_ | refine AW_region ?_ | refine wx mixed ?_ | refine AW_block ?_ | refine AW_skip ?_ | refine AW_exit ?_ | refine AW_ret ?_)
    first | refine AWk_op (callS0 rfl rfl (hre) rfl rfl rfl) rfl ?_ | refine AWd_op (callS0 rfl rfl (hre) rfl rfl rfl) rfl rfl ?_ | refine AWk_op (callS0L rfl rfl (hre) rfl (by repeat (first | exact trivial | exact AV.le.refl _ | exact AV.le.dat | exact AV.le.nils | exact AV.le.nilsf | exact AV.le.any _ | exact ObLe.refl _ | exact ⟨rfl, rfl⟩ | refine AV.le.tup ?_ | refine AV.le.agg ?_ | exact li | exact lb | exact ls | exact lk | exact ld | exact lz | refine ⟨?_, ?_⟩)) rfl rfl) rfl ?_ | refine AWd_op (callS0L rfl rfl (hre) rfl (by repeat (first | exact trivial | exact AV.le.refl _ | exact AV.le.dat | exact AV.le.nils | exact AV.le.nilsf | exact AV.le.any _ | exact ObLe.refl _ | exact ⟨rfl, rfl⟩ | refine AV.le.tup ?_ | refine AV.le.agg ?_ | exact li | exact lb | exact ls | exact lk | exact ld | exact lz | refine ⟨?_, ?_⟩)) rfl rfl) rfl rfl ?_
    repeat (first | refine wk hT rfl rfl ?_ | refine wd hT rfl rfl rfl ?_ | refine wz hT rfl ?_ | refine AWd_nil ?_ | refine AWk_nil ?_ | refine wh hT rfl rfl rfl rfl ?_ | refine wg hT rfl rfl rfl rfl rfl ?_ | refine AW_seq ?_ | refine AW_region ?_ | refine wx mixed ?_ | refine AW_block ?_ | refine AW_skip ?_ | refine AW_exit ?_ | refine AW_ret ?_)
    refine AWk_op (callS1 rfl rfl hro [0] (by decide) rfl rfl rfl rfl ((Bool.and_true _).trans (lowL_row 0 _)) rfl rfl) rfl ?_
    repeat (first | refine wk hT rfl rfl ?_ | refine wd hT rfl rfl rfl ?_ | refine wz hT rfl ?_ | refine AWd_nil ?_ | refine AWk_nil ?_ | refine wh hT rfl rfl rfl rfl ?_ | refine wg hT rfl rfl rfl rfl rfl ?_ | refine AW_seq ?_ | refine AW_region ?_ | refine wx mixed ?_ | refine AW_block ?_ | refine AW_skip ?_ | refine AW_exit ?_ | refine AW_ret ?_)
    first | refine AWk_op (callS0 rfl rfl (hd) rfl rfl rfl) rfl ?_ | refine AWd_op (callS0 rfl rfl (hd) rfl rfl rfl) rfl rfl ?_ | refine AWk_op (callS0L rfl rfl (hd) rfl (by repeat (first | exact trivial | exact AV.le.refl _ | exact AV.le.dat | exact AV.le.nils | exact AV.le.nilsf | exact AV.le.any _ | exact ObLe.refl _ | exact ⟨rfl, rfl⟩ | refine AV.le.tup ?_ | refine AV.le.agg ?_ | exact li | exact lb | exact ls | exact lk | exact ld | exact lz | refine ⟨?_, ?_⟩)) rfl rfl) rfl ?_ | refine AWd_op (callS0L rfl rfl (hd) rfl (by repeat (first | exact trivial | exact AV.le.refl _ | exact AV.le.dat | exact AV.le.nils | exact AV.le.nilsf | exact AV.le.any _ | exact ObLe.refl _ | exact ⟨rfl, rfl⟩ | refine AV.le.tup ?_ | refine AV.le.agg ?_ | exact li | exact lb | exact ls | exact lk | exact ld | exact lz | refine ⟨?_, ?_⟩)) rfl rfl) rfl rfl ?_
    repeat (first | refine wk hT rfl rfl ?_ | refine wd hT rfl rfl rfl ?_ | refine wz hT rfl ?_ | refine AWd_nil ?_ | refine AWk_nil ?_ | refine wh hT rfl rfl rfl rfl ?_ | refine wg hT rfl rfl rfl rfl rfl ?_ | refine AW_seq ?_ | refine AW_region ?_ | refine wx mixed ?_ | refine AW_block ?_ | refine AW_skip ?_ | refine AW_exit ?_ | refine AW_ret ?_)
    first | refine AWk_op (callS0 rfl rfl (ht) rfl rfl rfl) rfl ?_ | refine AWd_op (callS0 rfl rfl (ht) rfl rfl rfl) rfl rfl ?_ | refine AWk_op (callS0L rfl rfl (ht) rfl (by repeat (first | exact trivial | exact AV.le.refl _ | exact AV.le.dat | exact AV.le.nils | exact AV.le.nilsf | exact AV.le.any _ | exact ObLe.refl _ | exact ⟨rfl, rfl⟩ | refine AV.le.tup ?_ | refine AV.le.agg ?_ | exact li | exact lb | exact ls | exact lk | exact ld | exact lz | refine ⟨?_, ?_⟩)) rfl rfl) rfl ?_ | refine AWd_op (callS0L rfl rfl (ht) rfl (by repeat (first | exact trivial | exact AV.le.refl _ | exact AV.le.dat | exact AV.le.nils | exact AV.le.nilsf | exact AV.le.any _ | exact ObLe.refl _ | exact ⟨rfl, rfl⟩ | refine AV.le.tup ?_ | refine AV.le.agg ?_ | exact li | exact lb | exact ls | exact lk | exact ld | exact lz | refine ⟨?_, ?_⟩)) rfl rfl) rfl rfl ?_
    repeat (first | refine wk hT rfl rfl ?_ | refine wd hT rfl rfl rfl ?_ | refine wz hT rfl ?_ | refine AWd_nil ?_ | refine AWk_nil ?_ | refine wh hT rfl rfl rfl rfl ?_ | refine wg hT rfl rfl rfl rfl rfl ?_ | refine AW_seq ?_ | refine AW_region ?_ | refine wx mixed ?_ | refine AW_block ?_ | refine AW_skip ?_ | refine AW_exit ?_ | refine AW_ret ?_)
    first | refine AWk_op (callS0 rfl rfl (hrd) rfl rfl rfl) rfl ?_ | refine AWd_op (callS0 rfl rfl (hrd) rfl rfl rfl) rfl rfl ?_ | refine AWk_op (callS0L rfl rfl (hrd) rfl (by repeat (first | exact trivial | exact AV.le.refl _ | exact AV.le.dat | exact AV.le.nils | exact AV.le.nilsf | exact AV.le.any _ | exact ObLe.refl _ | exact ⟨rfl, rfl⟩ | refine AV.le.tup ?_ | refine AV.le.agg ?_ | exact li | exact lb | exact ls | exact lk | exact ld | exact lz | refine ⟨?_, ?_⟩)) rfl rfl) rfl ?_ | refine AWd_op (callS0L rfl rfl (hrd) rfl (by repeat (first | exact trivial | exact AV.le.refl _ | exact AV.le.dat | exact AV.le.nils | exact AV.le.nilsf | exact AV.le.any _ | exact ObLe.refl _ | exact ⟨rfl, rfl⟩ | refine AV.le.tup ?_ | refine AV.le.agg ?_ | exact li | exact lb | exact ls | exact lk | exact ld | exact lz | refine ⟨?_, ?_⟩)) rfl rfl) rfl rfl ?_
    repeat (first | refine wk hT rfl rfl ?_ | refine wd hT rfl rfl rfl ?_ | refine wz hT rfl ?_ | refine AWd_nil ?_ | refine AWk_nil ?_ | refine wh hT rfl rfl rfl rfl ?_ | refine wg hT rfl rfl rfl rfl rfl ?_ | refine AW_seq ?_ | refine AW_region ?_ | refine wx mixed ?_ | refine AW_block ?_ | refine AW_skip ?_ | refine AW_exit ?_ | refine AW_ret ?_)
    first | refine AWk_gop rfl rfl rfl (fun hg => ⟨(sg (C := True) hg).1, callS0 rfl rfl (hs) rfl rfl rfl⟩) ?_ | refine AWd_gop rfl rfl rfl rfl (fun hg => ⟨(sg (C := True) hg).1, callS0 rfl rfl (hs) rfl rfl rfl⟩) ?_
    repeat (first | refine wk hT rfl rfl ?_ | refine wd hT rfl rfl rfl ?_ | refine wz hT rfl ?_ | refine AWd_nil ?_ | refine AWk_nil ?_ | refine wh hT rfl rfl rfl rfl ?_ | refine wg hT rfl rfl rfl rfl rfl ?_ | refine AW_seq ?_ | refine AW_region ?_ | refine wx mixed ?_ | refine AW_block ?_ | refine AW_skip ?_ | refine AW_exit ?_ | refine AW_ret ?_)
    first | refine AWk_gop rfl rfl rfl (fun hg => ⟨(sg (C := True) hg).1, callS0 rfl rfl (hx) rfl rfl rfl⟩) ?_ | refine AWd_gop rfl rfl rfl rfl (fun hg => ⟨(sg (C := True) hg).1, callS0 rfl rfl (hx) rfl rfl rfl⟩) ?_
    repeat (first | refine wk hT rfl rfl ?_ | refine wd hT rfl rfl rfl ?_ | refine wz hT rfl ?_ | refine AWd_nil ?_ | refine AWk_nil ?_ | refine wh hT rfl rfl rfl rfl ?_ | refine wg hT rfl rfl rfl rfl rfl ?_ | refine AW_seq ?_ | refine AW_region ?_ | refine wx mixed ?_ | refine AW_block ?_ | refine AW_skip ?_ | refine AW_exit ?_ | refine AW_ret ?_)
    refine AW_condL rfl (fun h2 => ?_) (fun h2 => ?_)
    · simp at h2
    repeat (first | refine wk hT rfl rfl ?_ | refine wd hT rfl rfl rfl ?_ | refine wz hT rfl ?_ | refine AWd_nil ?_ | refine AWk_nil ?_ | refine wh hT rfl rfl rfl rfl ?_ | refine wg hT rfl rfl rfl rfl rfl ?_ | refine AW_seq ?_ | refine AW_region ?_ | refine wx mixed ?_ | refine AW_block ?_ | refine AW_skip ?_ | refine AW_exit ?_ | refine AW_ret ?_)
    refine AW_loopC (ι := Nat) (fun i => [(7, .ptr 1 0), (8, .d (.sl 2 (encRes rr))), (9, .bm 0 13), (10, .ptr 2 0), (14, .d (.int .i64 (i : Int)))])
      (fun i => [.buf 2 13 (rowR (ovr oo (us.take i))), .row [.d (.sl 6 rp)], .row [.d (.int .i64 v'), .d (.int .i64 rule'), .d (.sl 2 (encRes us))], .row [.d (.int .i64 v'), .d (.int .i64 rule'), .d (.sl 2 (encRes us))]])
      (fun i => i ≤ us.length) (fun i => us.length - i) 0 (Nat.zero_le _) ⟨.refl _, .refl _, .refl _, .refl _, .refl _, trivial⟩ (HLe.refl _) ?_
    intro i hi
    have hwr : IntKind.i64.wrap ((i : Int) + 1) = ((i + 1 : Nat) : Int) := by rw [wrap_id (by omega)]; omega
    have hno1 := ovr_nat (us.take i) oo 0 hoo (proper_sub (List.take_sublist _ _) q5)
    have hto := fun h => ovr_take oo us i h
    generalize hcur : ovr oo (us.take i) = cur at hno1 hto ⊢
    repeat (first | refine wk hT rfl rfl ?_ | refine wd hT rfl rfl rfl ?_ | refine wz hT rfl ?_ | refine AWd_nil ?_ | refine AWk_nil ?_ | refine wh hT rfl rfl rfl rfl ?_ | refine wg hT rfl rfl rfl rfl rfl ?_ | refine AW_seq ?_ | refine AW_region ?_ | refine wx mixed ?_ | refine AW_block ?_ | refine AW_skip ?_ | refine AW_exit ?_ | refine AW_ret ?_)
    refine AW_condL rfl (fun h3 => ?_) (fun h3 => ?_)
    · have hlt : i < us.length := by rw [hulen] at h3; simpa using h3
      have hto := hto hlt
      have hel := encRes_at hlt
      have hm := q4 us[i] (List.getElem_mem hlt)
      have hmr := hum us[i] (List.getElem_mem hlt)
      have hxl := hxl i hlt
      rw [q3 i hlt] at hxl
      have hcut := erase_cut us i hwr
      have hel2 : (encRes rr)[(IntKind.i64.wrap (us[i].1 - 1)).toNat]? = some [.int .i64 us[i].1, .int .i64 us[i].2] := by
        obtain ⟨j, hj, k1, k2⟩ := hrr.at hm
        rw [wrap_id (by omega), show (us[i].1 - 1).toNat = j by omega]
        have hj2 : (us[i].1, us[i].2) = rr[j] := by rw [k2]
        simp [encRes, encRe, hj, k2]
      generalize us[i] = u at *
      obtain ⟨uc, uw⟩ := u
      simp only at hmr hel hel2 hto
      have hwu : IntKind.i64.wrap (uc - 1) = uc - 1 := wrap_id (by omega)
      have hrl : (encRes rr).length = 13 := by rw [encRes_length]; exact hrr.1
      have hset : setRun (rowR cur) ((IntKind.i64.wrap (uc - 1)).toNat * 2) [.d (.int .i64 uc), .d (.int .i64 uw)] = rowR (ovr oo (us.take (i + 1))) := by rw [hto, hwu]; exact rowR_set cur (uc - 1).toNat (uc, uw)
      have hlt2 : (IntKind.i64.wrap (uc - 1)).toNat * 2 + 2 ≤ (rowR cur).length := by rw [rowR_length, hwu]; have := hno1.1; omega
      repeat (first | refine wk hT rfl rfl ?_ | refine wd hT rfl rfl rfl ?_ | refine wz hT rfl ?_ | refine AWd_nil ?_ | refine AWk_nil ?_ | refine wh hT rfl rfl rfl rfl ?_ | refine wg hT rfl rfl rfl rfl rfl ?_ | refine AW_seq ?_ | refine AW_region ?_ | refine AW_block ?_ | refine AW_skip ?_ | refine AW_exit ?_ | refine AW_ret ?_)
      refine AW_room ?_
      refine AW_drawG (fun i => bif Nat.beq i 2 || Nat.beq i 7 then [2] else bif Nat.beq i 5 || Nat.beq i 11 then [5] else bif Nat.beq i 13 then [4] else []) (fun i => bif Nat.beq i 5 || Nat.beq i 11 then [5] else bif Nat.beq i 13 then [4] else []) mixed (by kernel_rfl) ?_
      refine AWg_op (os := []) (fun k hk1 hk2 => buildSl_ok hT rfl rfl) rfl ?_
      repeat (first | refine AWg_load hT rfl rfl rfl rfl (by first | exact List.mem_cons_self | exact sm) rfl ?_ | refine AWg_pure hT (fun _ => rfl) rfl rfl (by first | exact True.intro | omega | exact sd) ?_ | refine AWg_store hT rfl rfl rfl (by first | exact List.mem_cons_self | exact sm) rfl ?_ | refine AWd_nil ?_)
      have htl : ((encRes us).take ((i : Int)).toNat).length ≤ 1000000 := by rw [List.length_take]; omega
      have hdl : ((encRes us).drop (IntKind.i64.wrap ((i : Int) + 1)).toNat).length ≤ 1000000 := by rw [List.length_drop]; omega
      have hC1 : 0 ≤ (i : Int) ∧ (i : Int) ≤ ((encRes us).length : Int) := by omega
      generalize hta : (encRes us).take ((i : Int)).toNat = ta at hcut htl
      generalize htb : (encRes us).drop (IntKind.i64.wrap ((i : Int) + 1)).toNat = tb at hcut hdl
      refine AWg_op (v := .sl 2 ta (.right 5)) (os := [.right 2 ta.length]) (fun kk hk1 hk2 => append_room0 (i := 5) hT rfl rfl rfl (.inl rfl) (by simp) ((hk2 5 List.mem_cons_self).trans rfl) (by rw [← hta]; rfl) (by show ta.length * (16 + 1) ≤ _; omega)) rfl ?_
      repeat (first | refine AWg_load hT rfl rfl rfl rfl (by first | exact List.mem_cons_self | exact sm) rfl ?_ | refine AWg_pure hT (fun _ => rfl) rfl rfl (by first | exact True.intro | omega | exact sd) ?_ | refine AWg_store hT rfl rfl rfl (by first | exact List.mem_cons_self | exact sm) rfl ?_ | refine AWd_nil ?_)
      refine AWg_op (v := .sl 2 (ta ++ tb) (.right 5)) (os := [.right 2 (ta ++ tb).length]) (fun kk hk1 hk2 => append_rightL (i := 5) hT rfl rfl rfl rfl ((hk2 5 List.mem_cons_self).trans rfl) (by rw [← htb]; rfl) (by show (ta.length + tb.length) * (16 + 1) ≤ _; omega)) rfl ?_
      rw [← hcut]
      repeat (first | refine AWg_load hT rfl rfl rfl rfl (by first | exact List.mem_cons_self | exact sm) rfl ?_ | refine AWg_pure hT (fun _ => rfl) rfl rfl (by first | exact True.intro | omega | exact sd) ?_ | refine AWg_store hT rfl rfl rfl (by first | exact List.mem_cons_self | exact sm) rfl ?_ | refine AWd_nil ?_)
      generalize encRes (us.eraseIdx i) = le at hxl ⊢
      refine AW_subL (l := [(7, .ptr 1 0), (8, .d (.sl 2 (encRes rr))), (9, .bm 0 13), (10, .ptr 2 0), (14, .d (.int .i64 (i : Int))), (15, .ptr 4 0)])
        (h' := [.buf 2 13 (rowR cur), .row [.d (.sl 6 rp)], .row [.d (.int .i64 v'), .d (.int .i64 rule'), .d (.sl 2 (encRes us))], .row [.d (.int .i64 v'), .d (.int .i64 rule'), .d (.sl 2 (encRes us))], .row [.d (.int .i64 v'), .d (.int .i64 rule'), .d (.sl 2 le)], .right 2 le.length])
        ⟨.refl _, .refl _, .refl _, .refl _, .refl _, .refl _, trivial⟩ ⟨ObLe.refl _, ObLe.refl _, ObLe.refl _, ObLe.refl _, ⟨.refl _, .refl _, .dat, trivial⟩, ObLe.refl _, trivial⟩ ?_
      repeat (first | refine wk hT rfl rfl ?_ | refine wd hT rfl rfl rfl ?_ | refine wz hT rfl ?_ | refine AWd_nil ?_ | refine AWk_nil ?_ | refine wh hT rfl rfl rfl rfl ?_ | refine wg hT rfl rfl rfl rfl rfl ?_ | refine AW_seq ?_ | refine AW_region ?_ | refine wx mixed ?_ | refine AW_block ?_ | refine AW_skip ?_ | refine AW_exit ?_ | refine AW_ret ?_)
      first | refine AWk_op (OpS_of_pure (indexAddr_ok hT rfl rfl rfl rfl (by omega) (hel))) rfl ?_ | refine AWd_op (OpS_of_pure (indexAddr_ok hT rfl rfl rfl rfl (by omega) (hel))) rfl rfl ?_
      repeat (first | refine wk hT rfl rfl ?_ | refine wd hT rfl rfl rfl ?_ | refine wz hT rfl ?_ | refine AWd_nil ?_ | refine AWk_nil ?_ | refine wh hT rfl rfl rfl rfl ?_ | refine wg hT rfl rfl rfl rfl rfl ?_ | refine AW_seq ?_ | refine AW_region ?_ | refine wx mixed ?_ | refine AW_block ?_ | refine AW_skip ?_ | refine AW_exit ?_ | refine AW_ret ?_)
      refine AWd_gop rfl rfl rfl rfl (fun hg' => ⟨by first | exact ⟨hg', hg', True.intro⟩ | exact ⟨hg', hg', hg', True.intro⟩ | exact (sg (C := True) hg').1, OpS_of_pure (indexAddr_ok hT rfl rfl rfl rfl (by omega) hel)⟩) ?_
      repeat (first | refine wk hT rfl rfl ?_ | refine wd hT rfl rfl rfl ?_ | refine wz hT rfl ?_ | refine AWd_nil ?_ | refine AWk_nil ?_ | refine wh hT rfl rfl rfl rfl ?_ | refine wg hT rfl rfl rfl rfl rfl ?_ | refine AW_seq ?_ | refine AW_region ?_ | refine wx mixed ?_ | refine AW_block ?_ | refine AW_skip ?_ | refine AW_exit ?_ | refine AW_ret ?_)
      refine AWd_gop rfl rfl rfl rfl (fun hg' => ⟨by first | exact ⟨hg', hg', True.intro⟩ | exact ⟨hg', hg', hg', True.intro⟩ | exact (sg (C := True) hg').1, callS0 rfl rfl hxl rfl rfl rfl⟩) ?_
      repeat (first | refine wk hT rfl rfl ?_ | refine wd hT rfl rfl rfl ?_ | refine wz hT rfl ?_ | refine AWd_nil ?_ | refine AWk_nil ?_ | refine wh hT rfl rfl rfl rfl ?_ | refine wg hT rfl rfl rfl rfl rfl ?_ | refine AW_seq ?_ | refine AW_region ?_ | refine wx mixed ?_ | refine AW_block ?_ | refine AW_skip ?_ | refine AW_exit ?_ | refine AW_ret ?_)
      refine AWd_gop rfl rfl rfl rfl (fun hg' => ⟨by first | exact ⟨hg', hg', True.intro⟩ | exact ⟨hg', hg', hg', True.intro⟩ | exact (sg (C := True) hg').1, OpS_of_pure (indexAddr_ok hT rfl rfl rfl rfl (by omega) hel)⟩) ?_
      repeat (first | refine wk hT rfl rfl ?_ | refine wd hT rfl rfl rfl ?_ | refine wz hT rfl ?_ | refine AWd_nil ?_ | refine AWk_nil ?_ | refine wh hT rfl rfl rfl rfl ?_ | refine wg hT rfl rfl rfl rfl rfl ?_ | refine AW_seq ?_ | refine AW_region ?_ | refine wx mixed ?_ | refine AW_block ?_ | refine AW_skip ?_ | refine AW_exit ?_ | refine AW_ret ?_)
      refine AWd_gop rfl rfl rfl rfl (fun hg' => ⟨by first | exact ⟨hg', hg', True.intro⟩ | exact ⟨hg', hg', hg', True.intro⟩ | exact (sg (C := True) hg').1, OpS_of_pure (indexAddr_ok hT rfl rfl rfl rfl (by omega) hel)⟩) ?_
      repeat (first | refine wk hT rfl rfl ?_ | refine wd hT rfl rfl rfl ?_ | refine wz hT rfl ?_ | refine AWd_nil ?_ | refine AWk_nil ?_ | refine wh hT rfl rfl rfl rfl ?_ | refine wg hT rfl rfl rfl rfl rfl ?_ | refine AW_seq ?_ | refine AW_region ?_ | refine wx mixed ?_ | refine AW_block ?_ | refine AW_skip ?_ | refine AW_exit ?_ | refine AW_ret ?_)
      refine AWd_gop rfl rfl rfl rfl (fun hg' => ⟨by first | exact ⟨hg', hg', True.intro⟩ | exact ⟨hg', hg', hg', True.intro⟩ | exact (sg (C := True) hg').1, OpS_of_pure (indexAddr_ok hT rfl rfl rfl rfl (by omega) hel2)⟩) ?_
      repeat (first | refine wk hT rfl rfl ?_ | refine wd hT rfl rfl rfl ?_ | refine wz hT rfl ?_ | refine AWd_nil ?_ | refine AWk_nil ?_ | refine wh hT rfl rfl rfl rfl ?_ | refine wg hT rfl rfl rfl rfl rfl ?_ | refine AW_seq ?_ | refine AW_region ?_ | refine wx mixed ?_ | refine AW_block ?_ | refine AW_skip ?_ | refine AW_exit ?_ | refine AW_ret ?_)
      refine AWd_gop rfl rfl rfl rfl (fun hg' => ⟨by first | exact ⟨hg', hg', True.intro⟩ | exact ⟨hg', hg', hg', True.intro⟩ | exact (sg (C := True) hg').1, OpS_of_pure (resNe_ok rfl rfl rfl)⟩) ?_
      repeat (first | refine wk hT rfl rfl ?_ | refine wd hT rfl rfl rfl ?_ | refine wz hT rfl ?_ | refine AWd_nil ?_ | refine AWk_nil ?_ | refine wh hT rfl rfl rfl rfl ?_ | refine wg hT rfl rfl rfl rfl rfl ?_ | refine AW_seq ?_ | refine AW_region ?_ | refine wx mixed ?_ | refine AW_block ?_ | refine AW_skip ?_ | refine AW_exit ?_ | refine AW_ret ?_)
      refine AW_condL rfl (fun h4 => ?_) (fun h4 => ?_)
      · exfalso; simp at h4; omega
      repeat (first | refine wk hT rfl rfl ?_ | refine wd hT rfl rfl rfl ?_ | refine wz hT rfl ?_ | refine AWd_nil ?_ | refine AWk_nil ?_ | refine wh hT rfl rfl rfl rfl ?_ | refine wg hT rfl rfl rfl rfl rfl ?_ | refine AW_seq ?_ | refine AW_region ?_ | refine AW_block ?_ | refine AW_skip ?_ | refine AW_exit ?_ | refine AW_ret ?_)
      refine AW_subL (l := [(7, .ptr 1 0), (8, .d (.sl 2 (encRes rr))), (9, .bm 0 13), (10, .ptr 2 0), (14, .d (.int .i64 (i : Int)))])
        (h' := [.buf 2 13 (rowR cur), .row [.d (.sl 6 rp)], .row [.d (.int .i64 v'), .d (.int .i64 rule'), .d (.sl 2 (encRes us))], .row [.d (.int .i64 v'), .d (.int .i64 rule'), .d (.sl 2 (encRes us))], .row [.d (.int .i64 v'), .d (.int .i64 rule'), .d (.sl 2 le)], .right 2 le.length])
        ⟨.refl _, .refl _, .refl _, .refl _, .refl _, trivial⟩ (HLe.refl _) ?_
      refine AW_drawG (fun i => bif Nat.beq i 2 || Nat.beq i 9 then [2] else bif Nat.beq i 14 then [0] else []) (fun i => bif Nat.beq i 14 then [0] else []) mixed (by kernel_rfl) ?_
      repeat (first | refine AWg_load hT rfl rfl rfl rfl (by first | exact List.mem_cons_self | exact sm) rfl ?_ | refine AWg_pure hT (fun _ => rfl) rfl rfl (by first | exact True.intro | omega | exact sd) ?_ | refine AWg_store hT rfl rfl rfl (by first | exact List.mem_cons_self | exact sm) rfl ?_ | refine AWd_nil ?_)
      refine AWg_op (os := []) (fun k hk1 hk2 => OpS_of_pure (indexAddr_ok hT rfl rfl rfl rfl (by omega) hel)) rfl ?_
      repeat (first | refine AWg_load hT rfl rfl rfl rfl (by first | exact List.mem_cons_self | exact sm) rfl ?_ | refine AWg_pure hT (fun _ => rfl) rfl rfl (by first | exact True.intro | omega | exact sd) ?_ | refine AWg_store hT rfl rfl rfl (by first | exact List.mem_cons_self | exact sm) rfl ?_ | refine AWd_nil ?_)
      refine AWg_op (os := []) (fun k hk1 hk2 => OpS_of_pure (indexAddr_ok hT rfl rfl rfl rfl (by omega) hel)) rfl ?_
      repeat (first | refine AWg_load hT rfl rfl rfl rfl (by first | exact List.mem_cons_self | exact sm) rfl ?_ | refine AWg_pure hT (fun _ => rfl) rfl rfl (by first | exact True.intro | omega | exact sd) ?_ | refine AWg_store hT rfl rfl rfl (by first | exact List.mem_cons_self | exact sm) rfl ?_ | refine AWd_nil ?_)
      refine AWg_op (os := []) (fun k hk1 hk2 => OpS_of_pure (bufAddr_ok (sz := 2) hT rfl rfl rfl rfl (by omega))) rfl ?_
      refine AWg_op (v := .any) (os := [.buf 2 13 (rowR (ovr oo (us.take (i + 1))))]) (fun k hk1 hk2 => bufStoreN hT rfl rfl rfl rfl ((hk2 0 List.mem_cons_self).trans rfl) rfl rfl (by simp) hlt2 (by rw [hset]; rfl)) rfl ?_
      repeat (first | refine AWg_load hT rfl rfl rfl rfl (by first | exact List.mem_cons_self | exact sm) rfl ?_ | refine AWg_pure hT (fun _ => rfl) rfl rfl (by first | exact True.intro | omega | exact sd) ?_ | refine AWg_store hT rfl rfl rfl (by first | exact List.mem_cons_self | exact sm) rfl ?_ | refine AWd_nil ?_)
      repeat (first | refine wk hT rfl rfl ?_ | refine wd hT rfl rfl rfl ?_ | refine wz hT rfl ?_ | refine AWd_nil ?_ | refine AWk_nil ?_ | refine wh hT rfl rfl rfl rfl ?_ | refine wg hT rfl rfl rfl rfl rfl ?_ | refine AW_seq ?_ | refine AW_region ?_ | refine wx mixed ?_ | refine AW_block ?_ | refine AW_skip ?_ | refine AW_exit ?_ | refine AW_ret ?_)
      exact ⟨i + 1, [_, _], by omega, by omega, ⟨.refl _, .refl _, .refl _, .refl _, .int hwr, trivial⟩, HLe.refl _, Env.below_mono hE (by simp), rfl, by simp only [lowH, lowO, lowL_row]; rfl⟩
    · obtain rfl : i = us.length := by rw [hulen] at h3; simp at h3; omega
      rw [List.take_length] at hcur
      rw [hcur] at hd2
      repeat (first | refine AW_exit ?_ | refine AW_skip ?_)
      refine AW_freezeBuf 9 0 2 (encRes cur) rfl rfl (by rw [encRes_length]; exact hno1.1) (by have := RowDat_row cur []; rwa [List.append_nil] at this) rfl ?_
      refine AW_subL (l := [(7, .ptr 1 0), (9, .d (.sl 2 (encRes cur))), (10, .ptr 2 0)])
        (h' := [.dead, .row [.d (.sl 6 rp)], .row [.d (.int .i64 v'), .d (.int .i64 rule'), .d (.sl 2 (encRes us))], .dead]) ⟨.refl _, AV.le.dat, .refl _, trivial⟩ ⟨trivial, ObLe.refl _, ObLe.refl _, trivial, trivial⟩ ?_
      repeat (first | refine wk hT rfl rfl ?_ | refine wd hT rfl rfl rfl ?_ | refine wz hT rfl ?_ | refine AWd_nil ?_ | refine AWk_nil ?_ | refine wh hT rfl rfl rfl rfl ?_ | refine wg hT rfl rfl rfl rfl rfl ?_ | refine AW_seq ?_ | refine AW_region ?_ | refine wx mixed ?_ | refine AW_block ?_ | refine AW_skip ?_ | refine AW_exit ?_ | refine AW_ret ?_)
      first | refine AWk_op (callS0 rfl rfl (hd2) rfl rfl rfl) rfl ?_ | refine AWd_op (callS0 rfl rfl (hd2) rfl rfl rfl) rfl rfl ?_ | refine AWk_op (callS0L rfl rfl (hd2) rfl (by repeat (first | exact trivial | exact AV.le.refl _ | exact AV.le.dat | exact AV.le.nils | exact AV.le.nilsf | exact AV.le.any _ | exact ObLe.refl _ | exact ⟨rfl, rfl⟩ | refine AV.le.tup ?_ | refine AV.le.agg ?_ | exact li | exact lb | exact ls | exact lk | exact ld | exact lz | refine ⟨?_, ?_⟩)) rfl rfl) rfl ?_ | refine AWd_op (callS0L rfl rfl (hd2) rfl (by repeat (first | exact trivial | exact AV.le.refl _ | exact AV.le.dat | exact AV.le.nils | exact AV.le.nilsf | exact AV.le.any _ | exact ObLe.refl _ | exact ⟨rfl, rfl⟩ | refine AV.le.tup ?_ | refine AV.le.agg ?_ | exact li | exact lb | exact ls | exact lk | exact ld | exact lz | refine ⟨?_, ?_⟩)) rfl rfl) rfl rfl ?_
      repeat (first | refine wk hT rfl rfl ?_ | refine wd hT rfl rfl rfl ?_ | refine wz hT rfl ?_ | refine AWd_nil ?_ | refine AWk_nil ?_ | refine wh hT rfl rfl rfl rfl ?_ | refine wg hT rfl rfl rfl rfl rfl ?_ | refine AW_seq ?_ | refine AW_region ?_ | refine wx mixed ?_ | refine AW_block ?_ | refine AW_skip ?_ | refine AW_exit ?_ | refine AW_ret ?_)
      first | refine AWk_op (callS0 rfl rfl (haw) rfl rfl rfl) rfl ?_ | refine AWd_op (callS0 rfl rfl (haw) rfl rfl rfl) rfl rfl ?_ | refine AWk_op (callS0L rfl rfl (haw) rfl (by repeat (first | exact trivial | exact AV.le.refl _ | exact AV.le.dat | exact AV.le.nils | exact AV.le.nilsf | exact AV.le.any _ | exact ObLe.refl _ | exact ⟨rfl, rfl⟩ | refine AV.le.tup ?_ | refine AV.le.agg ?_ | exact li | exact lb | exact ls | exact lk | exact ld | exact lz | refine ⟨?_, ?_⟩)) rfl rfl) rfl ?_ | refine AWd_op (callS0L rfl rfl (haw) rfl (by repeat (first | exact trivial | exact AV.le.refl _ | exact AV.le.dat | exact AV.le.nils | exact AV.le.nilsf | exact AV.le.any _ | exact ObLe.refl _ | exact ⟨rfl, rfl⟩ | refine AV.le.tup ?_ | refine AV.le.agg ?_ | exact li | exact lb | exact ls | exact lk | exact ld | exact lz | refine ⟨?_, ?_⟩)) rfl rfl) rfl rfl ?_
      repeat (first | refine wk hT rfl rfl ?_ | refine wd hT rfl rfl rfl ?_ | refine wz hT rfl ?_ | refine AWd_nil ?_ | refine AWk_nil ?_ | refine wh hT rfl rfl rfl rfl ?_ | refine wg hT rfl rfl rfl rfl rfl ?_ | refine AW_seq ?_ | refine AW_region ?_ | refine wx mixed ?_ | refine AW_block ?_ | refine AW_skip ?_ | refine AW_exit ?_ | refine AW_ret ?_)
      exact rq ⟨rfl, rfl⟩ rfl (.bool (by simp))
end Tdoc
