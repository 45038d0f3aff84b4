/- append to a slice whose spare room is one's own. No program is named here. -/
import Derived.Test.YtkkfcpohiofinaaDoorA7
set_option linter.unusedSimpArgs false
set_option linter.unusedVariables false
namespace Tdoc
open Go

section
variable {P : Program} {E : Env} {T : Tr} {o : Oper} {ρ : Operand → AV} {h h' : List AObj} {v : AV}

/-- Cells stored into a row that is known to be there. -/
theorem store_spare {p : Addr} (hp : p.spot = none) : ∀ (news : List Value) (i0 : Nat) (w : World), (∀ (k : Nat) (u : Value), news[k]? = some u → oneC u = true) →
    (∀ k, k < news.length → (∃ v, w.cell? (p.add (i0 + k)) = some v) ∧ w.frozen? (p.add (i0 + k)) = false) →
    ∃ w', (storeCells p news i0).run P w = .ok () w' ∧ (∀ (k : Nat) (u : Value), news[k]? = some u → w'.cell? (p.add (i0 + k)) = some u) ∧
      (∀ a : Addr, (∀ k, k < news.length → a ≠ p.add (i0 + k)) → w'.cell? a = w.cell? a) ∧ (∀ a, w'.frozen? a = w.frozen? a) ∧ (∀ b, b ≠ p.block → w'.heap[b]? = w.heap[b]?) ∧
      w'.heap.size = w.heap.size ∧ w'.os = w.os ∧ w'.tape = w.tape ∧ w'.output = w.output
  | [], i0, w, _, _ => ⟨w, by simp [storeCells], fun k u h => by simp at h, fun _ _ => rfl, fun _ => rfl, fun _ _ => rfl, rfl, rfl, rfl, rfl⟩
  | u :: news, i0, w, hone, hc => by
    obtain ⟨⟨v0, h1⟩, h2⟩ := hc 0 (by simp)
    have hu := hone 0 u (by simp)
    rw [Nat.add_zero] at h1 h2
    have hne : ∀ x y : Nat, x ≠ y → p.add x ≠ p.add y := by
      intro x y hxy hh
      rw [add_off p hp, add_off p hp] at hh
      injection hh with _ h3 _
      omega
    obtain ⟨w', q1, q2, q3, q4, q5, q6, q7, q8, q9⟩ := store_spare hp news (i0 + 1) (w.setCell (p.add i0) u) (fun k y hy => hone (k + 1) y (by simpa using hy)) (fun k hk => by
      obtain ⟨⟨v1, k1⟩, k2⟩ := hc (k + 1) (by simp; omega)
      rw [show i0 + (k + 1) = i0 + 1 + k by omega] at k1 k2
      exact ⟨⟨v1, by rw [World.cell?_setCell_other _ _ _ _ (hne _ _ (by omega))]; exact k1⟩, by rw [World.frozen?_setCell]; exact k2⟩)
    refine ⟨w', ?_, fun k y hy => ?_, fun a ha => ?_, fun a => by rw [q4, World.frozen?_setCell], fun b hb => ?_, by rw [q6]; simp, q7, q8, q9⟩
    · simp only [storeCells, Sem.run_bind]
      rw [run_store P w _ u .plain (oneC_oneCell' hu), h1]
      simp only [h2, Bool.false_eq_true, if_false, Result.andThen_ok]
      exact q1
    · cases k with
      | zero =>
        simp at hy; subst hy
        rw [Nat.add_zero, q3 _ (fun k hk => hne _ _ (by omega))]
        exact World.cell?_setCell_same _ _ _ h1
      | succ k =>
        simp at hy
        have := q2 k y hy
        rwa [show i0 + 1 + k = i0 + (k + 1) by omega] at this
    · rw [q3 a (fun k hk => by
        have := ha (k + 1) (by simp; omega)
        rwa [show i0 + (k + 1) = i0 + 1 + k by omega] at this)]
      exact World.cell?_setCell_other _ _ _ _ (fun hh => ha 0 (by simp) (by rw [Nat.add_zero]; exact hh.symm))
    · rw [q5 b hb]
      simp only [World.setCell, Array.getElem?_modify, add_block]
      rw [if_neg (by omega)]

/-- Ghost state behind an append in place. -/
def inPlace (G : Gh) (p : Addr) (i from_ : Nat) (news : List Value) (n' cap : Nat) : Gh :=
  { G with
    imm := fun a => if a.block = p.block ∧ a.spot = none ∧ p.off + from_ ≤ a.off ∧ a.off < p.off + from_ + news.length then news[a.off - (p.off + from_)]? else G.imm a
    rt := fun j m => if j = i ∧ m = n' then some (some p, cap) else G.rt j m }

/-- Ghost state behind an append that made a new row. -/
def outPlace (G : Gh) (b n : Nat) (cs : Array Value) (i n' cap : Nat) : Gh :=
  { immExt G b n cs with
    rt := fun j m => if j = i ∧ m = n' then some (some ⟨b, 0, none⟩, cap) else G.rt j m
    own := fun c => if c = b then some i else G.own c }

theorem append_rightR (hT : TOk P T) {t t2 sz by_ i : Nat} {s x : Operand} {es es2 : List (List Dat)} (ho : o.op = .call { callee := .builtin .append, args := #[s, x], argTypes := #[t, t2] })
    (ht : appT T t = some (sz, by_)) (ht2 : srcT T t2 = true) (hs : ρ s = .sl sz es (.right i)) (hi : h[i]? = some (.right sz es.length)) (hx : asNew sz (ρ x) = some es2)
    (hb : (es.length + es2.length) * (by_ + 1) ≤ 140737488355328) (G : Gh) (e : Operand → Value) (w : World) (hw : WRel E G h w) (hr : ∀ x, x ∈ o.op.operands.toList → RepA G (ρ x) (e x)) :
    ∃ u w' G', (execOp e o).run P w = .ok (.value u) w' ∧ G.le G' ∧ WRel E G' (h.set i (.right sz (es.length + es2.length))) w' ∧ RepA G' (.sl sz (es ++ es2) (.right i)) u := by
    have hs' : RepA G (ρ s) (e s) := hr s (by simp [ho, Op.operands, Call.operands])
    have hx' : RepA G (ρ x) (e x) := hr x (by simp [ho, Op.operands, Call.operands])
    obtain ⟨et, ie, h1, h2, rfl, rfl, hzl⟩ := appT_ok hT ht
    obtain ⟨d2, h3, h4⟩ := srcT_ok hT ht2
    obtain ⟨hlen2, news, n1, n2, n3, n4⟩ := asNew_src (P := P) hw.imm hx' hx
    obtain ⟨a, cap, hsv, hrt, hrd⟩ : ∃ a cap, e s = .slice a es.length cap ∧ G.rt i es.length = some (a, cap) ∧ RepD G.imm (.sl ie.size es) (e s) := by
      rw [hs] at hs'
      generalize e s = u at hs'
      cases hs' with
      | sl r k => obtain ⟨a, cap, rfl, hk⟩ := k; exact ⟨a, cap, rfl, hk, r⟩
    obtain ⟨a', cap', hrt', hcap, hlater, hspare⟩ := hw.obj i _ hi
    rw [hrt] at hrt'; cases hrt'
    obtain ⟨olds, o1, o2, o3, o4⟩ := src_of_rep (P := P) hw.imm hrd
    have hlen1 : ∀ el, el ∈ es → el.length = ie.size := by
      obtain ⟨a', cap', _, hn, hp⟩ := hrd.slice_inv
      cases a' with
      | none => rw [(hn rfl).1]; exact fun e he => by cases he
      | some p => exact (hp p rfl).2.2.1
    have hex : (execOp e o).run P w = ((Builtin.append_ #[t, t2] o.type #[e s, e x]).run P w).andThen fun u w' => .ok (.value u) w' := by
      unfold execOp
      simp [ho, resolve, invoke, builtin]
    by_cases hz : es2 = []
    · subst hz
      have hn : news = [] := by simpa using n2
      subst hn
      have hrun := run_append_in (ty := o.type) h1 h3 h4 h2 (w' := w) (a := a) (n := es.length) (cap := cap) n1 (by simpa using hcap) (by cases a <;> simp [storeCells])
      have hset : h.set i (.right ie.size (es.length + ([] : List (List Dat)).length)) = h := by
        apply List.ext_getElem?
        intro j
        rw [List.getElem?_set]
        split
        · rename_i e; subst e
          have := (List.getElem?_eq_some_iff.1 hi).1
          rw [if_pos this, hi]; simp
        · rfl
      refine ⟨e s, w, G, ?_, .refl G, by rw [hset]; exact hw, .sl (by simpa using hrd) ⟨a, cap, by simpa using hsv, by simpa using hrt⟩⟩
      rw [hex, hsv, hrun]; simp
    · have hpos : 0 < es2.length := List.length_pos_iff.2 hz
      have hrtn : G.rt i (es.length + es2.length) = none := hlater _ (by omega)
      by_cases hfit : es.length + es2.length ≤ cap
      · -- in place
        obtain ⟨p, rfl, p1, p2, p3⟩ := hspare (by omega)
        have hm1 : (es.length + es2.length) * ie.size ≤ cap * ie.size := Nat.mul_le_mul_right _ hfit
        rw [Nat.add_mul] at hm1
        have hspot : (p.add (es.length * ie.size)).spot = none := add_spot p p1 _
        obtain ⟨w', q1, q2, q3, q4, q5, q6, q7, q8, q9⟩ := store_spare (P := P) hspot news 0 w n3 (fun k hk => by
          rw [Nat.zero_add, add_add p p1]
          obtain ⟨c1, c2, _⟩ := p3 (es.length * ie.size + k) (by omega) (by omega)
          exact ⟨c1, c2⟩)
        have hrun := run_append_in (ty := o.type) h1 h3 h4 h2 (w' := w') (a := some p) (n := es.length) (cap := cap) n1 hfit (by simpa using q1)
        -- the cells written were not known before
        have himm0 : ∀ a : Addr, a.block = p.block → a.spot = none → p.off + es.length * ie.size ≤ a.off → a.off < p.off + es.length * ie.size + news.length → G.imm a = none := by
          intro a ha1 ha2 ha3 ha4
          have : a = p.add (a.off - p.off) := by
            rw [add_off p p1]
            obtain ⟨ab, ao, as⟩ := a
            simp only at ha1 ha2 ha3 ha4 ⊢
            subst ha1; subst ha2
            congr 1; omega
          rw [this]
          exact (p3 (a.off - p.off) (by omega) (by omega)).2.2
        let G' := inPlace G p i (es.length * ie.size) news (es.length + es2.length) cap
        have hle : G.le G' := by
          refine ⟨fun a v ha => ?_, fun _ _ x => x, fun j m x hx => ?_, fun _ _ x => x⟩
          · show (if _ then _ else G.imm a) = some v
            split
            · rename_i hc; rw [himm0 a hc.1 hc.2.1 hc.2.2.1 hc.2.2.2] at ha; cases ha
            · exact ha
          · show (if j = i ∧ m = es.length + es2.length then _ else G.rt j m) = some x
            split
            · rename_i hc; rw [hc.1, hc.2, hrtn] at hx; cases hx
            · exact hx
        have hKb := (hw.own _ i p2).2
        have hilt : i < h.length := (List.getElem?_eq_some_iff.1 hi).1
        have hnew : WRel E G' (h.set i (.right ie.size (es.length + es2.length))) w' := by
          refine ⟨hw.le.trans hle, fun a v ha => ?_, fun a v ha => ?_, fun b hb' => ?_, by rw [q6]; exact hw.size, q7.trans hw.os, q8.trans hw.tape, q9.trans hw.output, fun b j hb' => by rw [q6]; exact hw.own b j hb', fun j hj => ?_, fun j ob hj => ?_⟩
          · have ha' : (if a.block = p.block ∧ a.spot = none ∧ p.off + es.length * ie.size ≤ a.off ∧ a.off < p.off + es.length * ie.size + news.length then news[a.off - (p.off + es.length * ie.size)]? else G.imm a) = some v := ha
            split at ha'
            · rename_i hc
              have := q2 _ v ha'
              rw [Nat.zero_add, add_add p p1, add_off p p1] at this
              obtain ⟨ab, ao, as⟩ := a
              simp only at hc this ⊢
              rw [← hc.1, show p.off + (es.length * ie.size + (ao - (p.off + es.length * ie.size))) = ao by omega, ← hc.2.1] at this
              exact this
            · rename_i hc
              rw [q3 a (fun k hk hh => hc (by
                rw [Nat.zero_add, add_add p p1, add_off p p1] at hh
                subst hh
                exact ⟨rfl, rfl, by simp, by simp; omega⟩))]
              exact hw.imm a v ha'
          · have ha' : (if a.block = p.block ∧ a.spot = none ∧ p.off + es.length * ie.size ≤ a.off ∧ a.off < p.off + es.length * ie.size + news.length then news[a.off - (p.off + es.length * ie.size)]? else G.imm a) = some v := ha
            split at ha'
            · rename_i hc; right; rw [hc.1]; exact hKb
            · exact hw.immNew a v ha'
          · have : b ≠ p.block := fun hh => hKb (hh ▸ hb')
            rw [q5 b (by rw [add_block]; exact this)]; exact hw.keep b hb'
          · simp only [List.length_set] at hj
            have := hw.fresh j hj
            refine ⟨this.1, fun m => ?_⟩
            show (if j = i ∧ m = es.length + es2.length then _ else G.rt j m) = none
            rw [if_neg (by omega)]; exact this.2 m
          · rw [List.getElem?_set] at hj
            split at hj
            · rename_i hij; subst hij
              cases hj
              refine ⟨some p, cap, ?_, hfit, fun n' hn' => ?_, fun hlt => ⟨p, rfl, p1, p2, fun k hk1 hk2 => ?_⟩⟩
              · show (if i = i ∧ es.length + es2.length = es.length + es2.length then _ else _) = _; simp
              · show (if i = i ∧ n' = es.length + es2.length then _ else G.rt i n') = none
                rw [if_neg (by omega)]; exact hlater n' (by omega)
              · rw [Nat.add_mul] at hk1
                obtain ⟨⟨v, c1⟩, c2, c3⟩ := p3 k (by omega) hk2
                refine ⟨⟨v, ?_⟩, by rw [q4]; exact c2, ?_⟩
                · rw [q3 _ (fun k' hk' hh => by
                    rw [Nat.zero_add, add_add p p1, add_off p p1, add_off p p1] at hh
                    injection hh with _ h5 _
                    omega)]
                  exact c1
                · show (if (p.add k).block = p.block ∧ _ ∧ p.off + es.length * ie.size ≤ (p.add k).off ∧ (p.add k).off < p.off + es.length * ie.size + news.length then _ else G.imm _) = none
                  rw [if_neg (by rw [add_off p p1]; simp; omega)]; exact c3
            · rename_i hij
              refine (hw.obj j ob hj).keep hle (fun b hb' => ?_) (fun m hm => ?_) (fun hn => hn)
              · have hne : b ≠ p.block := fun hh => by subst hh; rw [p2] at hb'; cases hb'; exact hij rfl
                refine ⟨q5 b (by rw [add_block]; exact hne), fun a ha => ?_⟩
                show (if _ then _ else G.imm a) = G.imm a
                rw [if_neg (by rintro ⟨hc, _⟩; exact hne (ha ▸ hc))]
              · show (if j = i ∧ m = _ then _ else G.rt j m) = none
                rw [if_neg (by rintro ⟨hc, _⟩; exact hij hc.symm)]; exact hm
        refine ⟨.slice (some p) (es.length + es2.length) cap, w', G', by rw [hex, hsv, hrun]; rfl, hle, hnew, .sl ?_ ⟨some p, cap, by simp, ?_⟩⟩
        · obtain ⟨a0, cap0, hv0, _, hp0⟩ := hrd.slice_inv
          rw [hsv] at hv0
          cases hv0
          obtain ⟨r1, r2, r3, vs, r4, r5⟩ := hp0 p rfl
          rw [show es.length + es2.length = (es ++ es2).length by simp]
          refine .sl _ _ p cap (fun k => if k < es.length * ie.size then vs k else news.getD (k - es.length * ie.size) undef) r1 (by simpa using hfit) (fun el hel => ?_) (fun i' el j d he hd => ?_) (fun i' el j d he hd => ?_)
          · rcases List.mem_append.1 hel with hel | hel
            · exact hlen1 el hel
            · exact hlen2 el hel
          · by_cases hi' : i' < es.length
            · rw [List.getElem?_append_left hi'] at he
              have hjl : j < ie.size := by rw [← hlen1 el (List.mem_of_getElem? he)]; exact (List.getElem?_eq_some_iff.1 hd).1
              have hmul : (i' + 1) * ie.size ≤ es.length * ie.size := Nat.mul_le_mul_right _ hi'
              rw [Nat.add_mul, Nat.one_mul] at hmul
              rw [if_pos (by omega)]
              exact hle.imm _ _ (r4 i' el j d he hd)
            · rw [List.getElem?_append_right (by omega)] at he
              obtain ⟨u, hu, hru⟩ := n4 _ el j d he hd
              have hge : es.length * ie.size ≤ i' * ie.size := Nat.mul_le_mul_right _ (by omega)
              rw [if_neg (by omega), add_off p p1]
              have hidx : i' * ie.size + j - es.length * ie.size = (i' - es.length) * ie.size + j := by rw [Nat.sub_mul]; omega
              have hlt := (List.getElem?_eq_some_iff.1 hu).1
              show (if _ then _ else _) = _
              rw [if_pos ⟨rfl, rfl, by simp; omega, by simp; omega⟩]
              rw [show p.off + (i' * ie.size + j) - (p.off + es.length * ie.size) = (i' - es.length) * ie.size + j by omega, hidx, hu]
              simp [List.getD, hu]
          · by_cases hi' : i' < es.length
            · rw [List.getElem?_append_left hi'] at he
              have hjl : j < ie.size := by rw [← hlen1 el (List.mem_of_getElem? he)]; exact (List.getElem?_eq_some_iff.1 hd).1
              have hmul : (i' + 1) * ie.size ≤ es.length * ie.size := Nat.mul_le_mul_right _ hi'
              rw [Nat.add_mul, Nat.one_mul] at hmul
              rw [if_pos (by omega)]
              exact (r5 i' el j d he hd).mono hle.imm
            · rw [List.getElem?_append_right (by omega)] at he
              obtain ⟨u, hu, hru⟩ := n4 _ el j d he hd
              have hge : es.length * ie.size ≤ i' * ie.size := Nat.mul_le_mul_right _ (by omega)
              have hidx : i' * ie.size + j - es.length * ie.size = (i' - es.length) * ie.size + j := by rw [Nat.sub_mul]; omega
              rw [if_neg (by omega), hidx]
              simp only [List.getD, hu, Option.getD_some]
              exact hru.mono hle.imm
        · show (if i = i ∧ (es ++ es2).length = es.length + es2.length then _ else _) = _; simp
      · -- a new row
        obtain ⟨newCap, rest, w', c1, c2, c3, c4, c5, c6, c7⟩ := run_append_out (ty := o.type) h1 h3 h4 h2 hsv o1 n1 (by omega) hb
        let cs := olds.toArray ++ news.toArray ++ rest
        let nn := (es ++ es2).length * ie.size
        let G' := outPlace G w.heap.size nn cs i (es.length + es2.length) newCap
        have hnnl : olds.length + news.length = nn := by simp [nn, o2, n2, Nat.add_mul]
        have hown : G.own w.heap.size = none := by
          cases ho : G.own w.heap.size with
          | none => rfl
          | some j => have := (hw.own _ _ ho).1; omega
        have hK : ¬ E.K w.heap.size := fun hk => by have := hw.size; have := hk.1; omega
        have hilt : i < h.length := (List.getElem?_eq_some_iff.1 hi).1
        have hle0 := immExt_le hw nn cs
        have hle : G.le G' := by
          refine ⟨hle0.imm, fun _ _ x => x, fun j m x hx => ?_, fun b j hb' => ?_⟩
          · show (if j = i ∧ m = es.length + es2.length then _ else G.rt j m) = some x
            split
            · rename_i hc; rw [hc.1, hc.2, hrtn] at hx; cases hx
            · exact hx
          · show (if b = w.heap.size then some i else G.own b) = some j
            split
            · rename_i hc; subst hc; rw [hown] at hb'; cases hb'
            · exact hb'
        have hnew0 := hw.newImm nn cs et w' c3 c5 c6 c7
        have hcs : cs.size = olds.length + news.length + rest.size := by simp [cs]; omega
        have hnew : WRel E G' (h.set i (.right ie.size (es.length + es2.length))) w' := by
          refine ⟨hw.le.trans hle, hnew0.imm, hnew0.immNew, hnew0.keep, hnew0.size, hnew0.os, hnew0.tape, hnew0.output, fun b j hb' => ?_, fun j hj => ?_, fun j ob hj => ?_⟩
          · have hb2 : (if b = w.heap.size then some i else G.own b) = some j := hb'
            split at hb2
            · rename_i hc; subst hc; exact ⟨by rw [c3]; simp, hK⟩
            · exact hnew0.own b j hb2
          · simp only [List.length_set] at hj
            have := hw.fresh j hj
            refine ⟨this.1, fun m => ?_⟩
            show (if j = i ∧ m = es.length + es2.length then _ else G.rt j m) = none
            rw [if_neg (by omega)]; exact this.2 m
          · rw [List.getElem?_set] at hj
            split at hj
            · rename_i hij; subst hij
              cases hj
              refine ⟨some ⟨w.heap.size, 0, none⟩, newCap, ?_, c1, fun n' hn' => ?_, fun hlt => ⟨⟨w.heap.size, 0, none⟩, rfl, rfl, ?_, fun k hk1 hk2 => ?_⟩⟩
              · show (if i = i ∧ es.length + es2.length = es.length + es2.length then _ else _) = _; simp
              · show (if i = i ∧ n' = es.length + es2.length then _ else G.rt i n') = none
                rw [if_neg (by omega)]; exact hlater n' (by omega)
              · show (if w.heap.size = w.heap.size then _ else _) = _; simp
              · have hkl : k < cs.size := by
                  have hsum : (es.length + es2.length) * ie.size + (newCap - (es.length + es2.length)) * ie.size = newCap * ie.size := by
                    rw [← Nat.add_mul]; congr 1; omega
                  rw [hcs, c4, hzl, o2, n2, ← Nat.add_mul, hsum]; exact hk2
                refine ⟨⟨cs[k], ?_⟩, ?_, ?_⟩
                · have hcell : w'.heap[w.heap.size]? = some (.cells cs et) := by rw [c3]; exact Array.getElem?_push_size
                  have hget : cs[k]? = some cs[k] := by simp [hkl]
                  rw [add_mk, Nat.zero_add]
                  simp only [World.cell?, hcell]
                  exact hget
                · rw [add_mk]; simp [World.frozen?, c3]
                · rw [add_mk]
                  show (if w.heap.size = w.heap.size then (if (none : Option Nat) = none ∧ 0 + k < nn then _ else none) else _) = none
                  have hnk : ¬ (0 + k < nn) := by simp only [nn, List.length_append]; omega
                  rw [if_pos rfl, if_neg (fun hh => hnk hh.2)]
            · rename_i hij
              refine (hw.obj j ob hj).keep hle (fun b hb' => ?_) (fun m hm => ?_) (fun hn => hn)
              · have hlt := (hw.own b j hb').1
                refine ⟨by rw [c3]; exact heap_push_old _ _ _ hlt, fun a ha => ?_⟩
                show (if a.block = w.heap.size then _ else G.imm a) = G.imm a
                rw [if_neg (by omega)]
              · show (if j = i ∧ m = _ then _ else G.rt j m) = none
                rw [if_neg (by rintro ⟨hc, _⟩; exact hij hc.symm)]; exact hm
        refine ⟨_, w', G', by rw [hex, c2]; rfl, hle, hnew, .sl ?_ ⟨some ⟨w.heap.size, 0, none⟩, newCap, by simp, ?_⟩⟩
        · rw [show es.length + es2.length = (es ++ es2).length by simp]
          refine newImm_rep (n := nn) (cs := cs) (G := G) (b := w.heap.size) (fun el hel => by
            rcases List.mem_append.1 hel with hel | hel
            · exact hlen1 el hel
            · exact hlen2 el hel) (Nat.le_refl _) _ (by simpa using c1) (fun i el j d he hd => ?_)
          obtain ⟨u, hu, hru⟩ := two_parts o2 o4 n4 i el j d he hd
          refine ⟨u, ?_, hru.mono hle0.imm⟩
          simp only [cs]
          rw [Array.getElem?_append_left]
          · simpa using hu
          · have := (List.getElem?_eq_some_iff.1 hu).1; simpa using this
        · show (if i = i ∧ (es ++ es2).length = es.length + es2.length then _ else _) = _; simp

theorem append_right (hT : TOk P T) {t t2 sz by_ i : Nat} {s x : Operand} {es es2 : List (List Dat)} (ho : o.op = .call { callee := .builtin .append, args := #[s, x], argTypes := #[t, t2] })
    (ht : appT T t = some (sz, by_)) (ht2 : srcT T t2 = true) (hs : ρ s = .sl sz es (.right i)) (hi : h[i]? = some (.right sz es.length)) (hx : asNew sz (ρ x) = some es2)
    (hb : (es.length + es2.length) * (by_ + 1) ≤ 140737488355328) :
    OpS P E o ρ h (.sl sz (es ++ es2) (.right i)) (h.set i (.right sz (es.length + es2.length))) := OpS_of_run (append_rightR hT ho ht ht2 hs hi hx hb)
end
end Tdoc
