/- Rows that one owns, writes and appends to ('buf'): made, read, written, appended to, turned into text, handed on as data. No program is named here. -/
import Derived.Test.YtkkfcpohiofinaaDoorR2
set_option linter.unusedSimpArgs false
set_option linter.unusedVariables false
namespace Tdoc
open Go

theorem RepA.bm_inv {G : Gh} {v : Value} {i n : Nat} (h : RepA G (.bm i n) v) : ∃ a cap, v = .slice a n cap ∧ G.rt i n = some (a, cap) := by cases h with | bm a cap r _ => exact ⟨a, cap, rfl, r⟩
theorem RepA.bm_inv2 {G : Gh} {v : Value} {i n : Nat} (h : RepA G (.bm i n) v) : ∃ a cap, v = .slice a n cap ∧ G.rt i n = some (a, cap) ∧ (a = none → n = 0) := by cases h with | bm a cap r hz => exact ⟨a, cap, rfl, r, hz⟩
theorem RepA.bp_inv {G : Gh} {v : Value} {i n k : Nat} (h : RepA G (.bp i n k) v) : ∃ p cap, v = .pointer (some (p.add k)) ∧ G.rt i n = some (some p, cap) := by cases h with | bp p cap _ r => exact ⟨p, cap, rfl, r⟩

/-- An object turned, and one block of its own. -/
theorem WRel.bufAt {E : Env} {G G' : Gh} {h : List AObj} {w w' : World} {i bl : Nat} {ob ob' : AObj} (hw : WRel E G h w) (hi : h[i]? = some ob) (hle : G.le G') (himm : ∀ a, G'.imm a = G.imm a) (hown : ∀ b, G'.own b = G.own b) (hloc : ∀ j, G'.loc j = G.loc j)
    (hrt : ∀ j n, j ≠ i → G'.rt j n = G.rt j n) (hbl : G.own bl = some i) (hcell : ∀ a v, G.imm a = some v → w'.cell? a = some v) (hheap : ∀ k, k ≠ bl → w'.heap[k]? = w.heap[k]?) (hs : w'.heap.size = w.heap.size)
    (ho : w'.os = w.os) (ht : w'.tape = w.tape) (hout : w'.output = w.output) (hob : ObjRel G' w' i ob') : WRel E G' (h.set i ob') w' := by
  have hKb := (hw.own _ i hbl).2
  have hilt : i < h.length := (List.getElem?_eq_some_iff.1 hi).1
  refine ⟨hw.le.trans hle, fun a v ha => hcell a v (by rw [himm] at ha; exact ha), fun a v ha => hw.immNew a v (by rw [himm] at ha; exact ha), fun b hb => ?_, by rw [hs]; exact hw.size, ho.trans hw.os, ht.trans hw.tape, hout.trans hw.output,
    fun b j hb => by rw [hs]; rw [hown] at hb; exact hw.own b j hb, fun j hj => ?_, fun j o hj => ?_⟩
  · rw [hheap b (fun hh => hKb (hh ▸ hb))]; exact hw.keep b hb
  · simp only [List.length_set] at hj
    have := hw.fresh j hj
    exact ⟨by rw [hloc]; exact this.1, fun n => by rw [hrt j n (by omega)]; exact this.2 n⟩
  · rw [List.getElem?_set] at hj
    by_cases hij : i = j
    · subst hij
      simp only [if_true, hilt] at hj
      cases hj
      exact hob
    · rw [if_neg hij] at hj
      refine (hw.obj j o hj).keep hle (fun b hb => ⟨hheap b (fun hh => ?_), fun a ha => himm a⟩) (fun n hn => by rw [hrt j n (fun e => hij e.symm)]; exact hn) (fun hn => by rw [hloc]; exact hn)
      subst hh
      rw [hbl] at hb; cases hb; exact hij rfl

def rtSet (G : Gh) (i n : Nat) (x : Option Addr × Nat) : Gh := { G with rt := fun j m => if j = i ∧ m = n then some x else G.rt j m }
theorem rtSet_le {G : Gh} {i n : Nat} {x : Option Addr × Nat} (h : G.rt i n = none) : G.le (rtSet G i n x) := by
  refine ⟨fun _ _ h => h, fun _ _ h => h, fun j m y hy => ?_, fun _ _ h => h⟩
  show (if j = i ∧ m = n then _ else G.rt j m) = some y
  split
  · rename_i hc; rw [hc.1, hc.2, h] at hy; cases hy
  · exact hy
theorem rtSet_at (G : Gh) (i n : Nat) (x : Option Addr × Nat) : (rtSet G i n x).rt i n = some x := by show (if i = i ∧ n = n then _ else _) = _; simp
theorem rtSet_ne {G : Gh} {i n j m : Nat} {x : Option Addr × Nat} (h : ¬ (j = i ∧ m = n)) : (rtSet G i n x).rt j m = G.rt j m := by show (if j = i ∧ m = n then _ else _) = _; rw [if_neg h]

section
variable {P : Program} {E : Env} {T : Tr} {o : Oper} {ρ : Operand → AV} {h h' : List AObj} {v : AV}

theorem bufAddr_ok (hT : TOk P T) {t sz i n : Nat} {x ix : Operand} {k : IntKind} {j : Int} (ho : o.op = .indexAddr t x ix) (hs : sliceElem T t sz = true)
    (hx : ρ x = .bm i n) (hix : ρ ix = .d (.int k j)) (h0 : 0 ≤ j ∧ j < (n : Int)) : OpP P o ρ (.bp i n (j.toNat * sz)) := by
  intro G e w hi hr
  have hx' : RepA G (ρ x) (e x) := hr x (by simp [ho, Op.operands])
  have hix' : RepA G (ρ ix) (e ix) := hr ix (by simp [ho, Op.operands])
  rw [hx] at hx'; rw [hix] at hix'
  obtain ⟨et, ie, h1, h2, h3⟩ := sliceElem_ok hT hs
  obtain ⟨a, cap, hv, hl, hz⟩ := hx'.bm_inv2
  cases a with
  | none => have := hz rfl; omega
  | some p =>
    refine ⟨.pointer (some (p.add (j.toNat * sz))), ?_, .bp p cap _ hl⟩
    unfold execOp
    simp only [ho, Sem.run_bind]
    rw [hv, hix'.int_inv]
    simp [Instr.indexAt, asIntOf, run_underlying h1, h0.1, h0.2, h2.run_size, h3]

theorem bufLoad_ok (hT : TOk P T) {t i n off sz : Nat} {ti : TI} {x : Operand} {cells : List AV} (ho : o.op = .load t x) (hx : ρ x = .bp i n off) (hi : h[i]? = some (.buf sz n cells)) (hf : T.find t = some ti) (ha : ti.agg = false)
    (hv : cells[off]? = some v) : OpS P E o ρ h v h :=
  OpS_of_run fun G e w hw hr => by
    have hx' : RepA G (ρ x) (e x) := hr x (by simp [ho, Op.operands])
    rw [hx] at hx'
    obtain ⟨p, cap, hp, hl⟩ := hx'.bp_inv
    obtain ⟨a', cap', hl', _, hb1, hb2, hb3, hb4⟩ := hw.obj i _ hi
    rw [hl] at hl'; cases hl'
    have hlt := (List.getElem?_eq_some_iff.1 hv).1
    have hcap : 0 < cap := by
      rcases Nat.eq_zero_or_pos cap with h0 | h0
      · have : n = 0 := by omega
        subst this; simp at hb1; rw [hb1] at hlt; simp at hlt
      · exact h0
    obtain ⟨q1, q2, q3, q4⟩ := hb4 p rfl hcap
    obtain ⟨u, u1, u2, u3⟩ := q3 off v hv
    have hti := hT.at hf
    refine ⟨u, w, G, ?_, .refl G, hw, u3⟩
    unfold execOp
    simp [ho, Instr.loadAt, hp, Instr.sureAddr, loadVar, hti.run_agg, ha, u1]

theorem bufStore_ok (hT : TOk P T) {t i n off sz : Nat} {ti : TI} {x y : Operand} {cells : List AV} (ho : o.op = .store t x y) (hx : ρ x = .bp i n off) (hi : h[i]? = some (.buf sz n cells)) (hf : T.find t = some ti) (hsz : Nat.beq ti.size 1 = true)
    (hs : scalarA (ρ y) = true) (hlt : off < cells.length) : OpS P E o ρ h .any (h.set i (.buf sz n (cells.set off (ρ y)))) :=
  OpS_of_skip fun G e w hw hr => by
    have hx' : RepA G (ρ x) (e x) := hr x (by simp [ho, Op.operands])
    have hy' : RepA G (ρ y) (e y) := hr y (by simp [ho, Op.operands])
    rw [hx] at hx'
    obtain ⟨p, cap, hp, hl⟩ := hx'.bp_inv
    obtain ⟨a', cap', hl', hlater, hb1, hb2, hb3, hb4⟩ := hw.obj i _ hi
    rw [hl] at hl'; cases hl'
    have hcap : 0 < cap := by
      rcases Nat.eq_zero_or_pos cap with h0 | h0
      · have : n = 0 := by omega
        subst this; simp at hb1; rw [hb1] at hlt; simp at hlt
      · exact h0
    obtain ⟨q1, q2, q3, q4⟩ := hb4 p rfl hcap
    have hcs : n * sz ≤ cap * sz := Nat.mul_le_mul_right _ hb2
    have hone := scalar_one hy' hs
    have hti := hT.at hf
    have h1 := Nat.eq_of_beq_eq_true hsz
    have hspot : (p.add off).spot = none := add_spot p q1 _
    obtain ⟨w', r1, r2, r3, r4, r5, r6, r7, r8, r9⟩ := store_spare (P := P) hspot [e y] 0 w (fun k u hk => by
        cases k with
        | zero => simp at hk; subst hk; exact hone
        | succ k => simp at hk) (fun k hk => by
        simp at hk; subst hk
        obtain ⟨c1, c2, _⟩ := q4 off (by omega)
        rw [Nat.zero_add, show (p.add off).add 0 = p.add off by simp [Addr.add]]
        exact ⟨c1, c2⟩)
    have hadd0 : (p.add off).add 0 = p.add off := by simp [Addr.add]
    have hother : ∀ j, j ≠ off → w'.cell? (p.add j) = w.cell? (p.add j) := fun j hj => r3 _ (fun k hk hh => by
      simp at hk; subst hk
      rw [Nat.zero_add, hadd0, add_off p q1, add_off p q1] at hh
      injection hh with _ h5 _
      omega)
    refine ⟨w', G, ?_, .refl G, hw.bufAt (bl := p.block) hi (.refl G) (fun _ => rfl) (fun _ => rfl) (fun _ => rfl) (fun _ _ _ => rfl) q2 (fun a u hu => ?_) (fun k hk => r5 k (by rw [add_block]; exact hk)) r6 r7 r8 r9 ?_⟩
    · unfold execOp
      have hsz' : (e y).cells.size = ti.size := by rw [one_cells hone, h1]; rfl
      simp [ho, Instr.storeAt, hp, Instr.sureAddr, storeVar, hti.run_size, h1, one_cells hone, r1]
    · rw [r3 a (fun k hk hh => ?_)]
      · exact hw.imm a u hu
      · simp at hk; subst hk
        rw [Nat.zero_add, hadd0] at hh
        have := (q4 off (by omega)).2.2
        rw [← hh, hu] at this; cases this
    · refine ⟨some p, cap, hl, hlater, by simpa using hb1, hb2, hb3, fun p' hp' _ => ?_⟩
      cases hp'
      refine ⟨q1, q2, fun j c hj => ?_, fun j hj => ?_⟩
      · rw [List.getElem?_set] at hj
        by_cases hjo : off = j
        · subst hjo
          simp only [if_true, hlt] at hj
          cases hj
          refine ⟨e y, ?_, hone, hy'⟩
          have := r2 0 (e y) (by simp)
          rwa [Nat.zero_add, hadd0] at this
        · rw [if_neg hjo] at hj
          obtain ⟨u, u1, u2, u3⟩ := q3 j c hj
          exact ⟨u, by rw [hother j (fun e => hjo e.symm)]; exact u1, u2, u3⟩
      · obtain ⟨⟨u, c1⟩, c2, c3⟩ := q4 j hj
        refine ⟨?_, by rw [r4]; exact c2, c3⟩
        by_cases hjo : j = off
        · subst hjo
          refine ⟨e y, ?_⟩
          have := r2 0 (e y) (by simp)
          rwa [Nat.zero_add, hadd0] at this
        · exact ⟨u, by rw [hother j hjo]; exact c1⟩

/-- Elements as cells. -/
def flatAV (es : List (List Dat)) : List AV := es.flatten.map .d
theorem flatAV_length {sz : Nat} : ∀ {es : List (List Dat)}, (∀ e, e ∈ es → e.length = sz) → (flatAV es).length = es.length * sz
  | [], _ => by simp [flatAV]
  | a :: l, h => by
    have := flatAV_length (es := l) (fun e he => h e (by simp [he]))
    simp only [flatAV, List.length_map] at this ⊢
    rw [List.flatten_cons, List.length_append, this, h a (by simp), List.length_cons, Nat.succ_mul]; omega
theorem flatten_at {sz : Nat} : ∀ {es : List (List Dat)} {k : Nat} {d : Dat}, (∀ e, e ∈ es → e.length = sz) → es.flatten[k]? = some d → ∃ (i j : Nat) (e : List Dat), es[i]? = some e ∧ e[j]? = some d ∧ k = i * sz + j
  | [], k, d, _, h => by simp at h
  | a :: l, k, d, hl, h => by
    rw [List.flatten_cons] at h
    have ha := hl a (by simp)
    by_cases hk : k < a.length
    · rw [List.getElem?_append_left hk] at h
      exact ⟨0, k, a, by simp, h, by simp⟩
    · rw [List.getElem?_append_right (by omega)] at h
      obtain ⟨i, j, e, h1, h2, h3⟩ := flatten_at (fun e he => hl e (by simp [he])) h
      exact ⟨i + 1, j, e, by simpa using h1, h2, by rw [Nat.succ_mul]; omega⟩

theorem bufApp_ok (hT : TOk P T) {t t2 sz by_ i n : Nat} {s x : Operand} {cells : List AV} {es2 : List (List Dat)} (ho : o.op = .call { callee := .builtin .append, args := #[s, x], argTypes := #[t, t2] })
    (ht : appT T t = some (sz, by_)) (ht2 : srcT T t2 = true) (hs : ρ s = .bm i n) (hi : h[i]? = some (.buf sz n cells)) (hx : asNew sz (ρ x) = some es2)
    (hb : (n + es2.length) * (by_ + 1) ≤ 140737488355328) :
    OpS P E o ρ h (.bm i (n + es2.length)) (h.set i (.buf sz (n + es2.length) (cells ++ flatAV es2))) :=
  OpS_of_run fun G e w hw hr => by
    have hs' : RepA G (ρ s) (e s) := hr s (by simp [ho, Op.operands, Call.operands])
    have hx' : RepA G (ρ x) (e x) := hr x (by simp [ho, Op.operands, Call.operands])
    rw [hs] at hs'
    obtain ⟨et, ie, h1, h2, rfl, rfl, hzl⟩ := appT_ok hT ht
    obtain ⟨d2, h3, h4⟩ := srcT_ok hT ht2
    obtain ⟨hlen2, news, n1, n2, n3, n4⟩ := asNew_src (P := P) hw.imm hx' hx
    obtain ⟨a, cap, hsv, hrt⟩ := hs'.bm_inv
    obtain ⟨a', cap', hrt', hlater, hb1, hcap, hb3, hb4⟩ := hw.obj i _ hi
    rw [hrt] at hrt'; cases hrt'
    have hfl := flatAV_length hlen2
    have hex : (execOp e o).run P w = ((Builtin.append_ #[t, t2] o.type #[e s, e x]).run P w).andThen fun u w' => .ok (.value u) w' := by
      unfold execOp
      simp [ho, resolve, invoke, builtin]
    have hilt : i < h.length := (List.getElem?_eq_some_iff.1 hi).1
    have hnewc : ∀ (G' : Gh), G.le G' → ∀ (j : Nat) (c : AV), (flatAV es2)[j]? = some c → ∃ u, news[j]? = some u ∧ oneC u = true ∧ RepA G' c u := by
      intro G' hle j c hj
      simp only [flatAV, List.getElem?_map, Option.map_eq_some_iff] at hj
      obtain ⟨d, hd, rfl⟩ := hj
      obtain ⟨i', j', el, e1, e2, rfl⟩ := flatten_at hlen2 hd
      obtain ⟨u, hu, hru⟩ := n4 i' el j' d e1 e2
      exact ⟨u, hu, n3 _ u hu, .d (hru.mono hle.imm)⟩
    by_cases hz : es2 = []
    · subst hz
      have hn : news = [] := by simpa using n2
      subst hn
      have hrun := run_append_in (ty := o.type) h1 h3 h4 h2 (w' := w) (a := a) (n := n) (cap := cap) n1 (by simpa using hcap) (by cases a <;> simp [storeCells])
      have hset : h.set i (.buf ie.size (n + ([] : List (List Dat)).length) (cells ++ flatAV [])) = h := by
        apply List.ext_getElem?
        intro j
        rw [List.getElem?_set]
        split
        · rename_i e; subst e
          rw [hi]; simp [flatAV, hilt]
        · rfl
      refine ⟨e s, w, G, ?_, .refl G, by rw [hset]; exact hw, by rw [hsv]; exact .bm a cap hrt (by obtain ⟨a2, c2, e2, _, hz2⟩ := hs'.bm_inv2; rw [hsv] at e2; cases e2; exact hz2)⟩
      rw [hex, hsv, hrun]; simp
    · have hpos : 0 < es2.length := List.length_pos_iff.2 hz
      have hrtn : G.rt i (n + es2.length) = none := hlater _ (by omega)
      by_cases hfit : n + es2.length ≤ cap
      · cases a with
        | none => have := hb3.1 rfl; omega
        | some p =>
          obtain ⟨p1, p2, p3, p4⟩ := hb4 p rfl (by omega)
          have hm1 : (n + es2.length) * ie.size ≤ cap * ie.size := Nat.mul_le_mul_right _ hfit
          rw [Nat.add_mul] at hm1
          have hspot : (p.add (n * ie.size)).spot = none := add_spot p p1 _
          obtain ⟨w', q1, q2, q3, q4, q5, q6, q7, q8, q9⟩ := store_spare (P := P) hspot news 0 w n3 (fun k hk => by
            rw [Nat.zero_add, add_add p p1]
            obtain ⟨c1, c2, _⟩ := p4 (n * ie.size + k) (by omega)
            exact ⟨c1, c2⟩)
          have hrun := run_append_in (ty := o.type) h1 h3 h4 h2 (w' := w') (a := some p) (n := n) (cap := cap) n1 hfit (by simpa using q1)
          have hold : ∀ j, ¬ (n * ie.size ≤ j ∧ j < n * ie.size + news.length) → w'.cell? (p.add j) = w.cell? (p.add j) := fun j hj => q3 _ (fun k hk hh => by
            rw [Nat.zero_add, add_add p p1, add_off p p1, add_off p p1] at hh
            injection hh with _ h5 _
            omega)
          have hnw : ∀ (k : Nat) (u : Value), news[k]? = some u → w'.cell? (p.add (n * ie.size + k)) = some u := fun k u hu => by
            have := q2 k u hu
            rwa [Nat.zero_add, add_add p p1] at this
          have hle := rtSet_le (x := (some p, cap)) hrtn
          refine ⟨.slice (some p) (n + es2.length) cap, w', rtSet G i (n + es2.length) (some p, cap), by rw [hex, hsv, hrun]; rfl, hle, ?_, .bm _ _ (rtSet_at _ _ _ _) (fun h => by cases h)⟩
          refine hw.bufAt (bl := p.block) hi hle (fun _ => rfl) (fun _ => rfl) (fun _ => rfl) (fun j m hj => rtSet_ne (fun hc => hj hc.1)) p2 (fun a u hu => ?_) (fun k hk => q5 k (by rw [add_block]; exact hk)) q6 q7 q8 q9 ?_
          · rw [q3 a (fun k hk hh => ?_)]
            · exact hw.imm a u hu
            · rw [Nat.zero_add, add_add p p1] at hh
              have := (p4 (n * ie.size + k) (by omega)).2.2
              rw [← hh, hu] at this; cases this
          · refine ⟨some p, cap, rtSet_at _ _ _ _, fun n' hn' => by rw [rtSet_ne (by omega)]; exact hlater n' (by omega), by rw [List.length_append, hb1, hfl, Nat.add_mul], hfit, hb3, fun p' hp' _ => ?_⟩
            cases hp'
            refine ⟨p1, p2, fun j c hj => ?_, fun j hj => ?_⟩
            · by_cases hjl : j < cells.length
              · rw [List.getElem?_append_left hjl] at hj
                obtain ⟨u, u1, u2, u3⟩ := p3 j c hj
                exact ⟨u, by rw [hold j (by omega)]; exact u1, u2, u3.mono hle⟩
              · rw [List.getElem?_append_right (by omega)] at hj
                obtain ⟨u, u1, u2, u3⟩ := hnewc _ hle _ c hj
                refine ⟨u, ?_, u2, u3⟩
                have := hnw _ u u1
                rwa [show n * ie.size + (j - cells.length) = j by omega] at this
            · obtain ⟨⟨u, c1⟩, c2, c3⟩ := p4 j hj
              refine ⟨?_, by rw [q4]; exact c2, c3⟩
              by_cases hjn : n * ie.size ≤ j ∧ j < n * ie.size + news.length
              · have hk : j - n * ie.size < news.length := by omega
                have := hnw (j - n * ie.size) news[j - n * ie.size] (by simp [hk])
                exact ⟨_, by rwa [show n * ie.size + (j - n * ie.size) = j by omega] at this⟩
              · exact ⟨u, by rw [hold j hjn]; exact c1⟩
      · -- a new row
        have hsrc : ∃ olds : List Value, Src P w (e s) n ie.size olds ∧ olds.length = n * ie.size ∧ ∀ (j : Nat) (c : AV), cells[j]? = some c → ∃ u, olds[j]? = some u ∧ oneC u = true ∧ RepA G c u := by
          by_cases hc0 : 0 < cap
          · cases a with
            | none => have := hb3.1 rfl; omega
            | some p =>
              obtain ⟨p1, p2, p3, p4⟩ := hb4 p rfl hc0
              let f : Nat → Value := fun j => (w.cell? (p.add j)).getD undef
              have hm : n * ie.size ≤ cap * ie.size := Nat.mul_le_mul_right _ hcap
              refine ⟨(List.range (n * ie.size)).map f, fun w'' hh => ?_, by simp, fun j c hj => ?_⟩
              · have hld : (loadCells p (n * ie.size)).run P w'' = .ok ((List.range (n * ie.size)).map f).toArray w'' := by
                  refine run_loadCells (P := P) w'' p (n * ie.size) f (fun j hj => ?_)
                  obtain ⟨⟨u, c1⟩, _⟩ := p4 j (by omega)
                  rw [cell?_heap hh]; simp [f, c1]
                rw [hsv]
                refine ⟨rfl, ?_⟩
                simp [Builtin.firstCells, hld]
              · have hjl : j < n * ie.size := by rw [← hb1]; exact (List.getElem?_eq_some_iff.1 hj).1
                obtain ⟨u, u1, u2, u3⟩ := p3 j c hj
                exact ⟨u, by simp [hjl, f, u1], u2, u3⟩
          · have hn0 : n = 0 := by omega
            subst hn0
            refine ⟨[], fun w'' hh => ?_, by simp, fun j c hj => ?_⟩
            · rw [hsv]
              refine ⟨rfl, ?_⟩
              cases a with
              | none => simp [Builtin.firstCells]
              | some p =>
                have := run_loadCells (P := P) w'' p 0 (fun _ => undef) (fun j hj => by omega)
                simp only [Builtin.firstCells, Nat.zero_mul]
                simpa using this
            · have := (List.getElem?_eq_some_iff.1 hj).1
              rw [hb1] at this; simp at this
        obtain ⟨olds, o1, o2, o3⟩ := hsrc
        obtain ⟨newCap, rest, w', c1, c2, c3, c4, c5, c6, c7⟩ := run_append_out (ty := o.type) h1 h3 h4 h2 hsv o1 n1 (by omega) hb
        let cs := olds.toArray ++ news.toArray ++ rest
        have hown : G.own w.heap.size = none := by
          cases ho : G.own w.heap.size with
          | none => rfl
          | some j => have := (hw.own _ _ ho).1; omega
        have hK : ¬ E.K w.heap.size := fun hk => by have := hw.size; have := hk.1; omega
        let G' : Gh := { rtSet G i (n + es2.length) (some ⟨w.heap.size, 0, none⟩, newCap) with own := fun b => if b = w.heap.size then some i else G.own b }
        have hle : G.le G' := by
          refine ⟨fun _ _ x => x, fun _ _ x => x, (rtSet_le hrtn).rt, fun b j hb' => ?_⟩
          show (if b = w.heap.size then some i else G.own b) = some j
          split
          · rename_i hc; subst hc; rw [hown] at hb'; cases hb'
          · exact hb'
        have hsum : (n + es2.length) * ie.size + (newCap - (n + es2.length)) * ie.size = newCap * ie.size := by
          rw [← Nat.add_mul]; congr 1; omega
        have hcs : cs.size = newCap * ie.size := by
          have : cs.size = olds.length + news.length + rest.size := by simp [cs]; omega
          rw [this, c4, hzl, o2, n2, ← Nat.add_mul, hsum]
        have hcell : w'.heap[w.heap.size]? = some (.cells cs et) := by rw [c3]; exact Array.getElem?_push_size
        have hcj : ∀ j, w'.cell? ((⟨w.heap.size, 0, none⟩ : Addr).add j) = cs[j]? := fun j => by
          rw [add_mk, Nat.zero_add]; simp [World.cell?, hcell]
        refine ⟨_, w', G', by rw [hex, c2]; rfl, hle, ?_, .bm _ _ (rtSet_at _ _ _ _) (fun h => by cases h)⟩
        refine ⟨hw.le.trans hle, fun a u hu => ?_, hw.immNew, fun b hb' => ?_, by rw [c3]; simp; have := hw.size; omega, c5.trans hw.os, c6.trans hw.tape, c7.trans hw.output, fun b j hb' => ?_, fun j hj => ?_, fun j ob hj => ?_⟩
        · have hcc := hw.imm a u hu
          rw [World.cell?_of_block (w := w) (by rw [c3]; exact heap_push_old _ _ _ (World.block_lt_of_cell? _ _ hcc))]
          exact hcc
        · rw [c3, heap_push_old _ _ _ (Nat.lt_of_lt_of_le hb'.1 hw.size)]; exact hw.keep b hb'
        · have hb2 : (if b = w.heap.size then some i else G.own b) = some j := hb'
          split at hb2
          · rename_i hc; subst hc; exact ⟨by rw [c3]; simp, hK⟩
          · have := hw.own b j hb2; exact ⟨by rw [c3]; simp; omega, this.2⟩
        · simp only [List.length_set] at hj
          have := hw.fresh j hj
          exact ⟨this.1, fun m => by show (rtSet G i _ _).rt j m = none; rw [rtSet_ne (by omega)]; exact this.2 m⟩
        · rw [List.getElem?_set] at hj
          by_cases hij : i = j
          · subst hij
            simp only [if_true, hilt] at hj
            cases hj
            refine ⟨some ⟨w.heap.size, 0, none⟩, newCap, rtSet_at _ _ _ _, fun n' hn' => by show (rtSet G i _ _).rt i n' = none; rw [rtSet_ne (by omega)]; exact hlater n' (by omega), by rw [List.length_append, hb1, hfl, Nat.add_mul], c1, ⟨fun h => (by cases h), fun p' hp' => (by cases hp'; rfl)⟩, fun p' hp' _ => ?_⟩
            cases hp'
            refine ⟨rfl, by show (if w.heap.size = w.heap.size then _ else _) = _; simp, fun k c hk => ?_, fun k hk => ⟨?_, ?_, ?_⟩⟩
            · rw [hcj]
              by_cases hkl : k < cells.length
              · rw [List.getElem?_append_left hkl] at hk
                obtain ⟨u, u1, u2, u3⟩ := o3 k c hk
                refine ⟨u, ?_, u2, u3.mono hle⟩
                have hko : k < olds.length := (List.getElem?_eq_some_iff.1 u1).1
                simp only [cs]
                rw [Array.getElem?_append_left (by simp; omega), Array.getElem?_append_left (by simpa using hko)]
                simpa using u1
              · rw [List.getElem?_append_right (by omega)] at hk
                obtain ⟨u, u1, u2, u3⟩ := hnewc _ hle _ c hk
                refine ⟨u, ?_, u2, u3⟩
                have hkn := (List.getElem?_eq_some_iff.1 u1).1
                simp only [cs]
                rw [Array.getElem?_append_left (by simp; omega), Array.getElem?_append_right (by simp; omega)]
                simp only [List.size_toArray, List.getElem?_toArray]
                rw [o2, ← hb1]; exact u1
            · rw [hcj]; exact ⟨cs[k]'(by rw [hcs]; exact hk), by simp [hcs, hk]⟩
            · rw [add_mk]; simp [World.frozen?, c3]
            · cases hg : G.imm ((⟨w.heap.size, 0, none⟩ : Addr).add k) with
              | none => exact hg
              | some u => have := World.block_lt_of_cell? _ _ (hw.imm _ u hg); rw [add_block] at this; simp at this
          · rw [if_neg hij] at hj
            refine (hw.obj j ob hj).keep hle (fun b hb' => ⟨by rw [c3]; exact heap_push_old _ _ _ (hw.own b j hb').1, fun a ha => rfl⟩) (fun m hm => by show (rtSet G i _ _).rt j m = none; rw [rtSet_ne (fun hc => hij hc.1.symm)]; exact hm) (fun hn => hn)

/-- A buffer of bytes as text. -/
theorem bufStr_ok (hT : TOk P T) {t t2 i n : Nat} {x : Operand} {cells : List AV} {s : List UInt8} (ho : o.op = .convert t t2 x) (hb : (isByteSlice T t && isStrT T t2) = true) (hx : ρ x = .bm i n) (hi : h[i]? = some (.buf 1 n cells))
    (hs : s.length = n) (hc : ∀ (j : Nat) (c : UInt8), s[j]? = some c → cells[j]? = some (.d (.int .u8 (c.toNat : Int)))) : OpS P E o ρ h (.d (.str s)) h :=
  OpS_of_run fun G e w hw hr => by
    have hx' : RepA G (ρ x) (e x) := hr x (by simp [ho, Op.operands])
    rw [hx] at hx'
    obtain ⟨a, cap, hv, hl⟩ := hx'.bm_inv
    obtain ⟨a', cap', hl', hlater, hb1, hb2, hb3, hb4⟩ := hw.obj i _ hi
    rw [hl] at hl'; cases hl'
    simp only [Bool.and_eq_true] at hb
    obtain ⟨et, h1, h2⟩ := isByteSlice_ok hT hb.1
    have h3 := und_of_str hT hb.2
    refine ⟨.string ⟨s.toArray⟩, w, G, ?_, .refl G, hw, .d (.str _)⟩
    unfold execOp
    simp only [ho, Sem.run_bind]
    rw [hv]
    cases a with
    | none =>
      have hc0 := hb3.1 rfl
      have hs0 : s = [] := List.length_eq_zero_iff.1 (by omega)
      have hn0 : n = 0 := by omega
      subst hs0; subst hn0; subst hc0
      simp [Go.convert, run_underlying h1, run_underlying h2, run_underlying h3, Conv.bytesToString]
      rfl
    | some p =>
      let ns : List Int := s.map fun c => (c.toNat : Int)
      have hnl : ns.length = n := by simp [ns, hs]
      have hld : (loadCells p n).run P w = .ok (ns.map (Value.int .u8)).toArray w := by
        have := run_loadCells (P := P) w p n (fun j => Value.int .u8 (ns.getD j 0)) (fun j hj => by
          obtain ⟨q1, q2, q3, q4⟩ := hb4 p rfl (by omega)
          have hsj : s[j]? = some s[j] := by simp [hs, hj]
          obtain ⟨u, u1, u2, u3⟩ := q3 _ _ (hc j _ hsj)
          rw [u3.int_inv] at u1
          rw [u1]
          simp [List.getD, ns, hs, hj])
        rw [this]
        congr 2
        apply List.ext_getElem?
        intro j
        by_cases hj : j < n
        · have hj' : j < ns.length := by omega
          simp [hj, hj', List.getD]
        · have hj' : ¬ j < ns.length := by omega
          simp [hj, hj', List.getElem?_eq_none (Nat.le_of_not_lt hj')]
      have hmap : (ns.map fun n => UInt8.ofNat n.toNat) = s := by simp [ns, Function.comp_def]
      simp [Go.convert, run_underlying h1, run_underlying h2, run_underlying h3, run_bytesToString w _ n cap ns hld, foldl_push, hmap]

/-- A new buffer of zero elements, in a room. -/
theorem makeBuf_ok (hT : TOk P T) {t sz by_ i0 : Nat} {z : List AV} {x y : Operand} {k k' : IntKind} {n : Nat} (ho : o.op = .makeSlice t x y) (he : elemT T t = some (sz, by_, z)) (hx : ρ x = .d (.int k (n : Int))) (hy : ρ y = .d (.int k' (n : Int)))
    (hb : by_ * n ≤ 281474976710656) (h63 : n ≤ 9223372036854775807) (hroom : h[i0]? = some .room) :
    OpS P E o ρ h (.bm i0 n) (h.set i0 (.buf sz n (List.replicate n z).flatten)) :=
  OpS_of_run fun G e w hw hr => by
    have hx' : RepA G (ρ x) (e x) := hr x (by simp [ho, Op.operands])
    have hy' : RepA G (ρ y) (e y) := hr y (by simp [ho, Op.operands])
    rw [hx] at hx'; rw [hy] at hy'
    obtain ⟨et, ie, h1, h2, h3, h4, h5, h6⟩ := elemT_ok hT he
    obtain ⟨info, g1, g2, g3, zv, g4, g5⟩ := h2.info
    obtain ⟨hl, hc⟩ := zrepL_ok g5
    have hzs : zv.cells.size = sz := by
      have : zv.cells.toList.length = ie.zero.length := hl.symm ▸ rfl
      simp only [Array.length_toList] at this
      rw [this, h5, h6]
    have hbb : (info.bytes : Int) * (n : Int) ≤ 281474976710656 := by
      have : info.bytes * n ≤ 281474976710656 := by rw [g3, h4]; exact hb
      have h9 : ((info.bytes * n : Nat) : Int) ≤ 281474976710656 := by omega
      rwa [Int.natCast_mul] at h9
    have hrun := run_make (P := P) w t et info zv h1 g1 g4 k k' (n : Int) (n : Int) (by omega) (Int.le_refl _) hbb (by omega)
    simp only [Int.toNat_natCast] at hrun
    have hinfo : info.size = sz := by rw [g2, h3]
    have hrm := hw.obj i0 _ hroom
    have hi0 : i0 < h.length := (List.getElem?_eq_some_iff.1 hroom).1
    have hown : G.own w.heap.size = none := by
      cases ho : G.own w.heap.size with
      | none => rfl
      | some j => have := (hw.own _ _ ho).1; omega
    have hK : ¬ E.K w.heap.size := fun hk => by have := hw.size; have := hk.1; omega
    let cs := madeCells zv.cells (n * info.size)
    have hcs : cs.size = n * sz := by simp [cs, size_madeCells, hinfo]
    let w' : World := { w with heap := w.heap.push (.cells cs et) }
    let G' : Gh := { rtSet G i0 n (some ⟨w.heap.size, 0, none⟩, n) with own := fun b => if b = w.heap.size then some i0 else G.own b }
    have hle : G.le G' := by
      refine ⟨fun _ _ x => x, fun _ _ x => x, (rtSet_le (hrm.2 n)).rt, fun b j hb' => ?_⟩
      show (if b = w.heap.size then some i0 else G.own b) = some j
      split
      · rename_i hc; subst hc; rw [hown] at hb'; cases hb'
      · exact hb'
    have hcj : ∀ j, w'.cell? ((⟨w.heap.size, 0, none⟩ : Addr).add j) = cs[j]? := fun j => by
      rw [add_mk, Nat.zero_add]; simp [World.cell?, w']
    refine ⟨.slice (some ⟨w.heap.size, 0, none⟩) n n, w', G', ?_, hle, ?_, .bm _ _ (rtSet_at _ _ _ _) (fun h => by cases h)⟩
    · unfold execOp
      simp only [ho, hx'.int_inv, hy'.int_inv, Sem.run_bind, hrun, Result.andThen_ok]
      rfl
    refine ⟨hw.le.trans hle, fun a u hu => ?_, hw.immNew, fun b hb' => ?_, by show E.w0.heap.size ≤ (w.heap.push _).size; simp; have := hw.size; omega, hw.os, hw.tape, hw.output, fun b j hb' => ?_, fun j hj => ?_, fun j ob hj => ?_⟩
    · have hcc := hw.imm a u hu
      rw [World.cell?_of_block (w := w) (by exact heap_push_old _ _ _ (World.block_lt_of_cell? _ _ hcc))]
      exact hcc
    · show (w.heap.push _)[b]? = _
      rw [heap_push_old _ _ _ (Nat.lt_of_lt_of_le hb'.1 hw.size)]; exact hw.keep b hb'
    · have hb2 : (if b = w.heap.size then some i0 else G.own b) = some j := hb'
      split at hb2
      · rename_i hc; subst hc; exact ⟨by show _ < (w.heap.push _).size; simp, hK⟩
      · have := hw.own b j hb2; exact ⟨by show _ < (w.heap.push _).size; simp; omega, this.2⟩
    · simp only [List.length_set] at hj
      have := hw.fresh j hj
      exact ⟨this.1, fun m => by show (rtSet G i0 _ _).rt j m = none; rw [rtSet_ne (by omega)]; exact this.2 m⟩
    · rw [List.getElem?_set] at hj
      by_cases hij : i0 = j
      · subst hij
        simp only [if_true, hi0] at hj
        cases hj
        refine ⟨some ⟨w.heap.size, 0, none⟩, n, rtSet_at _ _ _ _, fun n' hn' => by show (rtSet G i0 _ _).rt i0 n' = none; rw [rtSet_ne (by omega)]; exact hrm.2 n', by rw [List.length_flatten, List.map_replicate, List.sum_replicate_nat, h6], Nat.le_refl _, ⟨fun h => (by cases h), fun p' hp' => (by cases hp'; rfl)⟩, fun p' hp' _ => ?_⟩
        cases hp'
        refine ⟨rfl, by show (if w.heap.size = w.heap.size then _ else _) = _; simp, fun k c hk => ?_, fun k hk => ⟨?_, ?_, ?_⟩⟩
        · rw [flat_repl, h6] at hk
          split at hk
          · rename_i hkl
            rw [hcj]
            have hkc : cs[k]? = some (cs[k]'(by rw [hcs]; exact hkl)) := by simp [hcs, hkl]
            have hlt : k % sz < zv.cells.size := by
              rw [hzs]
              exact Nat.mod_lt _ (by rcases Nat.eq_zero_or_pos sz with h0 | h0; (subst h0; simp at hkl); exact h0)
            have hval : cs[k]'(by rw [hcs]; exact hkl) = zv.cells[k % sz] := by
              simp only [cs, madeCells, Array.getElem_map, Array.getElem_range, hzs]
              rw [getElem!_pos zv.cells (k % sz) hlt]
            obtain ⟨c1, c2⟩ := hc G (k % sz) c zv.cells[k % sz] (by rw [h5]; exact hk) (by simp [hlt])
            exact ⟨_, hkc, by rw [hval]; exact c2, by rw [hval]; exact c1.mono hle⟩
          · cases hk
        · rw [hcj]; exact ⟨cs[k]'(by rw [hcs]; exact hk), by simp [hcs, hk]⟩
        · rw [add_mk]; simp [World.frozen?, w']
        · cases hg : G.imm ((⟨w.heap.size, 0, none⟩ : Addr).add k) with
          | none => exact hg
          | some u => have := World.block_lt_of_cell? _ _ (hw.imm _ u hg); rw [add_block] at this; simp at this
      · rw [if_neg hij] at hj
        refine (hw.obj j ob hj).keep hle (fun b hb' => ⟨by show (w.heap.push _)[b]? = _; exact heap_push_old _ _ _ (hw.own b j hb').1, fun a ha => rfl⟩) (fun m hm => by show (rtSet G i0 _ _).rt j m = none; rw [rtSet_ne (fun hc => hij hc.1.symm)]; exact hm) (fun hn => hn)

end

/-! ### tellings -/
theorem Rel_bufOf {E : Env} {N : Nat} {l : List (Nat × AV)} {h : List AObj} {t sz i : Nat} (ht : look l t = .sl sz [] .full ∨ look l t = .nils) (hi : h[i]? = some .room) :
    ∀ a w, Rel E N (look l) h a w → Rel E N (look ((t, .bm i 0) :: l)) (h.set i (.buf sz 0 [])) a w := by
  intro a w ⟨h1, h2, G, hw, hr⟩
  have hx := hr t
  obtain ⟨p, hv, hsp⟩ : ∃ p : Option Addr, a.tmps.getD t undef = .slice p 0 0 ∧ ∀ q, p = some q → q.spot = none := by
    rcases ht with ht | ht
    · rw [ht] at hx
      generalize a.tmps.getD t undef = u at hx
      cases hx with
      | sl r k =>
        obtain ⟨p, rfl⟩ := k
        obtain ⟨a', cap', h5, h6, h7⟩ := r.slice_inv
        cases h5
        exact ⟨p, rfl, fun q hq => (h7 q hq).1⟩
    · rw [ht] at hx
      generalize a.tmps.getD t undef = u at hx
      cases hx; exact ⟨none, rfl, fun q hq => by cases hq⟩
  have hrm := hw.obj i _ hi
  have hilt : i < h.length := (List.getElem?_eq_some_iff.1 hi).1
  have hle := rtSet_le (G := G) (i := i) (n := 0) (x := (p, 0)) (hrm.2 0)
  refine ⟨h1, h2, rtSet G i 0 (p, 0), ⟨hw.le.trans hle, hw.imm, hw.immNew, hw.keep, hw.size, hw.os, hw.tape, hw.output, hw.own, fun j hj => ?_, fun j o hj => ?_⟩, fun s => ?_⟩
  · simp only [List.length_set] at hj
    have := hw.fresh j hj
    exact ⟨this.1, fun n => by rw [rtSet_ne (by omega)]; exact this.2 n⟩
  · rw [List.getElem?_set] at hj
    by_cases hij : i = j
    · subst hij
      simp only [if_true, hilt] at hj
      cases hj
      exact ⟨p, 0, rtSet_at _ _ _ _, fun n' hn' => by rw [rtSet_ne (by omega)]; exact hrm.2 n', by simp, Nat.le_refl _, ⟨fun _ => rfl, hsp⟩, fun _ _ hc => by omega⟩
    · rw [if_neg hij] at hj
      exact (hw.obj j o hj).keep hle (fun b hb => ⟨rfl, fun _ _ => rfl⟩) (fun n hn => by rw [rtSet_ne (fun hc => hij hc.1.symm)]; exact hn) (fun hn => hn)
  · show RepA _ (bif Nat.beq s t then _ else look l s) _
    cases hb : Nat.beq s t with
    | false => exact (hr s).mono hle
    | true =>
      obtain rfl := Nat.eq_of_beq_eq_true hb
      rw [hv]
      exact .bm _ _ (rtSet_at _ _ _ _) (fun _ => rfl)

/-- A buffer handed on as data that does not turn; one may still append to it. -/
theorem Rel_freezeBuf {E : Env} {N : Nat} {l : List (Nat × AV)} {h : List AObj} {t i n sz : Nat} {cells : List AV} {es : List (List Dat)} (ht : look l t = .bm i n) (hi : h[i]? = some (.buf sz n cells)) (hn : es.length = n) (hd : RowDat cells 0 sz es) :
    ∀ a w, Rel E N (look l) h a w → Rel E N (look ((t, .sl sz es (.right i)) :: l)) (h.set i (.right sz n)) a w := by
  intro a w ⟨h1, h2, G, hw, hr⟩
  have hx := hr t
  rw [ht] at hx
  obtain ⟨p, cap, hv, hl⟩ := hx.bm_inv
  obtain ⟨p', cap', hl', hlater, hb1, hb2, hb3, hb4⟩ := hw.obj i _ hi
  rw [hl] at hl'; cases hl'
  have hilt : i < h.length := (List.getElem?_eq_some_iff.1 hi).1
  cases p with
  | none =>
    have hc0 := hb3.1 rfl
    have hn0 : n = 0 := by omega
    have hes : es = [] := List.length_eq_zero_iff.1 (by omega)
    subst hn0; subst hes; subst hc0
    refine ⟨h1, h2, G, ⟨hw.le, hw.imm, hw.immNew, hw.keep, hw.size, hw.os, hw.tape, hw.output, hw.own, fun j hj => hw.fresh j (by simpa using hj), fun j o hj => ?_⟩, fun s => ?_⟩
    · rw [List.getElem?_set] at hj
      by_cases hij : i = j
      · subst hij
        simp only [if_true, hilt] at hj
        cases hj
        exact ⟨none, 0, hl, Nat.le_refl _, hlater, fun hlt => by omega⟩
      · rw [if_neg hij] at hj; exact hw.obj j o hj
    · show RepA _ (bif Nat.beq s t then _ else look l s) _
      cases hb : Nat.beq s t with
      | false => exact hr s
      | true =>
        obtain rfl := Nat.eq_of_beq_eq_true hb
        rw [hv]
        exact .sl (.nil sz) ⟨none, 0, rfl, hl⟩
  | some p =>
    have hsp := hb3.2 p rfl
    by_cases hcap0 : 0 < cap
    · obtain ⟨q1, q2, q3, q4⟩ := hb4 p rfl hcap0
      have hns : n * sz ≤ cap * sz := Nat.mul_le_mul_right _ hb2
      let inn : Addr → Prop := fun a => a.block = p.block ∧ a.spot = none ∧ p.off ≤ a.off ∧ a.off < p.off + n * sz
      let G' : Gh := { G with imm := fun a => if a.block = p.block ∧ a.spot = none ∧ p.off ≤ a.off ∧ a.off < p.off + n * sz then w.cell? a else G.imm a }
      have hle : G.le G' := by
        refine ⟨fun x u hu => ?_, fun _ _ h => h, fun _ _ _ h => h, fun _ _ h => h⟩
        have hne : ¬ (x.block = p.block ∧ x.spot = none ∧ p.off ≤ x.off ∧ x.off < p.off + n * sz) := fun hh => by
          have := (q4 (x.off - p.off) (by omega)).2.2
          rw [add_off p q1, ← hh.1, show p.off + (x.off - p.off) = x.off by omega, ← hh.2.1] at this
          rw [show (⟨x.block, x.off, x.spot⟩ : Addr) = x from rfl, hu] at this
          cases this
        show (if _ then _ else _) = _
        rw [if_neg hne]; exact hu
      have hKb := (hw.own _ i q2).2
      have hat : ∀ k, k < n * sz → G'.imm (p.add k) = w.cell? (p.add k) := fun k hk => by
        show (if _ then _ else _) = _
        rw [if_pos (by rw [add_off p q1]; exact ⟨rfl, rfl, by simp, by simp; omega⟩)]
      refine ⟨h1, h2, G', ⟨hw.le.trans hle, fun x u hu => ?_, fun x u hu => ?_, hw.keep, hw.size, hw.os, hw.tape, hw.output, hw.own, fun j hj => hw.fresh j (by simpa using hj), fun j o hj => ?_⟩, fun s => ?_⟩
      · simp only [G'] at hu
        split at hu
        · exact hu
        · exact hw.imm x u hu
      · simp only [G'] at hu
        split at hu
        · rename_i hh; right; rw [hh.1]; exact hKb
        · exact hw.immNew x u hu
      · rw [List.getElem?_set] at hj
        by_cases hij : i = j
        · subst hij
          simp only [if_true, hilt] at hj
          cases hj
          refine ⟨some p, cap, hl, hb2, hlater, fun hlt => ⟨p, rfl, q1, q2, fun k hk1 hk2 => ?_⟩⟩
          obtain ⟨c1, c2, c3⟩ := q4 k hk2
          refine ⟨c1, c2, ?_⟩
          show (if _ then _ else _) = _
          rw [if_neg (by rw [add_off p q1]; simp; omega)]; exact c3
        · rw [if_neg hij] at hj
          refine (hw.obj j o hj).keep hle (fun b hb => ⟨rfl, fun x hx => ?_⟩) (fun _ h => h) (fun h => h)
          have hne : b ≠ p.block := fun hh => by subst hh; rw [q2] at hb; cases hb; exact hij rfl
          show (if _ then _ else _) = _
          rw [if_neg (fun hh => hne (hx.symm.trans hh.1))]
      · show RepA _ (bif Nat.beq s t then _ else look l s) _
        cases hb : Nat.beq s t with
        | false => exact (hr s).mono hle
        | true =>
          obtain rfl := Nat.eq_of_beq_eq_true hb
          rw [hv]
          have hcell : ∀ (i' : Nat) (e : List Dat) (j : Nat) (d : Dat), es[i']? = some e → e[j]? = some d → G'.imm (p.add (i' * sz + j)) = some ((w.cell? (p.add (i' * sz + j))).getD undef) ∧ RepD G'.imm d ((w.cell? (p.add (i' * sz + j))).getD undef) := by
            intro i' e j d he hj
            obtain ⟨c, g1, g2⟩ := hd.2 i' e j d he hj
            rw [Nat.zero_add] at g1
            have hlt := (List.getElem?_eq_some_iff.1 g1).1
            obtain ⟨u, u1, u2, u3⟩ := q3 _ c g1
            rw [hat _ (by omega), u1]
            exact ⟨rfl, (toDat_ok u3 g2).mono hle.imm⟩
          refine .sl ?_ ⟨some p, cap, by rw [hn], by rw [hn]; exact hl⟩
          rw [← hn]
          exact .sl sz es p cap (fun k => (w.cell? (p.add k)).getD undef) q1 (by omega) hd.1 (fun i' e j d he hj => (hcell i' e j d he hj).1) (fun i' e j d he hj => (hcell i' e j d he hj).2)
    · have hc0 : cap = 0 := by omega
      have hn0 : n = 0 := by omega
      have hes : es = [] := List.length_eq_zero_iff.1 (by omega)
      subst hn0; subst hes; subst hc0
      refine ⟨h1, h2, G, ⟨hw.le, hw.imm, hw.immNew, hw.keep, hw.size, hw.os, hw.tape, hw.output, hw.own, fun j hj => hw.fresh j (by simpa using hj), fun j o hj => ?_⟩, fun s => ?_⟩
      · rw [List.getElem?_set] at hj
        by_cases hij : i = j
        · subst hij
          simp only [if_true, hilt] at hj
          cases hj
          exact ⟨some p, 0, hl, Nat.le_refl _, hlater, fun hlt => by omega⟩
        · rw [if_neg hij] at hj; exact hw.obj j o hj
      · show RepA _ (bif Nat.beq s t then _ else look l s) _
        cases hb : Nat.beq s t with
        | false => exact hr s
        | true =>
          obtain rfl := Nat.eq_of_beq_eq_true hb
          rw [hv]
          exact .sl (RepD.sl sz [] p 0 (fun _ => undef) hsp (Nat.le_refl _) (fun e he => by cases he) (fun i e j d he => by simp at he) (fun i e j d he => by simp at he)) ⟨some p, 0, rfl, hl⟩

theorem AW_bufOf {P : Program} {E : Env} {N : Nat} {Q : Exit → (Nat → AV) → List AObj → Prop} {c : Code} {l : List (Nat × AV)} {h h' : List AObj} (t sz i : Nat) (ht : look l t = .sl sz [] .full ∨ look l t = .nils) (hi : h[i]? = some .room)
    (hh : forceS (h.set i (.buf sz 0 [])) some = some h') (hc : AW P E N c Q (look ((t, .bm i 0) :: l)) h') : AW P E N c Q (look l) h := by
  rw [forceS_eq] at hh; cases hh
  exact AW_sub (Rel_bufOf ht hi) hc

theorem AW_freezeBuf {P : Program} {E : Env} {N : Nat} {Q : Exit → (Nat → AV) → List AObj → Prop} {c : Code} {l : List (Nat × AV)} {h h' : List AObj} (t i sz : Nat) {n : Nat} {cells : List AV} (es : List (List Dat)) (ht : look l t = .bm i n) (hi : h[i]? = some (.buf sz n cells)) (hn : es.length = n)
    (hd : RowDat cells 0 sz es) (hh : forceS (h.set i (.right sz n)) some = some h') (hc : AW P E N c Q (look ((t, .sl sz es (.right i)) :: l)) h') : AW P E N c Q (look l) h := by
  rw [forceS_eq] at hh; cases hh
  exact AW_sub (Rel_freezeBuf ht hi hn hd) hc
end Tdoc
