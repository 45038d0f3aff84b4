/- append. No program is named here. -/
import Derived.Test.YtkkfcpohiofinaaDoorA6
set_option linter.unusedSimpArgs false
set_option linter.unusedVariables false
namespace Tdoc
open Go

section
variable {P : Program} {E : Env} {T : Tr} {o : Oper} {ρ : Operand → AV} {h h' : List AObj} {v : AV}

/-- What is appended: so many elements, so many cells. -/
def Src (P : Program) (w : World) (xv : Value) (m sz : Nat) (news : List Value) : Prop :=
  ∀ w' : World, w'.heap = w.heap → (Builtin.lenOf xv).run P w' = .ok m w' ∧ (Builtin.firstCells sz m xv).run P w' = .ok news.toArray w'

theorem cell?_heap {w w' : World} (h : w'.heap = w.heap) (a : Addr) : w'.cell? a = w.cell? a := by simp [World.cell?, h]

theorem src_of_rep {G : Gh} {w : World} {sz : Nat} {es : List (List Dat)} {xv : Value} (hi : ∀ a x, G.imm a = some x → w.cell? a = some x) (hr : RepD G.imm (.sl sz es) xv) :
    ∃ news, Src P w xv es.length sz news ∧ news.length = es.length * sz ∧ (∀ (k : Nat) (u : Value), news[k]? = some u → oneC u = true) ∧
      ∀ (i : Nat) (e : List Dat) (j : Nat) (d : Dat), es[i]? = some e → e[j]? = some d → ∃ u, news[i * sz + j]? = some u ∧ RepD G.imm d u := by
  cases hr with
  | nil => exact ⟨[], fun w' hw' => ⟨rfl, by simp [Builtin.firstCells]⟩, by simp, fun k u h => by simp at h, fun i e j d h => by simp at h⟩
  | sl _ _ a cap vs h1 h2 h3 h4 h5 =>
    have at_ : ∀ k, k < es.length * sz → ∃ i e j d, es[i]? = some e ∧ e[j]? = some d ∧ k = i * sz + j := by
      intro k hk
      have hs : 0 < sz := by rcases Nat.eq_zero_or_pos sz with h0 | h0; (· subst h0; simp at hk); exact h0
      have hil : k / sz < es.length := Nat.div_lt_of_lt_mul (by rw [Nat.mul_comm]; exact hk)
      have he : es[k / sz]? = some es[k / sz] := by simp [hil]
      have hel := h3 _ (List.mem_of_getElem? he)
      have hjl : k % sz < es[k / sz].length := by rw [hel]; exact Nat.mod_lt _ hs
      refine ⟨k / sz, es[k / sz], k % sz, es[k / sz][k % sz], he, by simp [hjl], ?_⟩
      rw [Nat.mul_comm]; exact (Nat.div_add_mod k sz).symm
    have hlt : ∀ (i : Nat) (e : List Dat) (j : Nat) (d : Dat), es[i]? = some e → e[j]? = some d → i * sz + j < es.length * sz := by
      intro i e j d he hd
      have hj : j < sz := by rw [← h3 e (List.mem_of_getElem? he)]; exact (List.getElem?_eq_some_iff.1 hd).1
      have hil : i < es.length := (List.getElem?_eq_some_iff.1 he).1
      have : (i + 1) * sz ≤ es.length * sz := Nat.mul_le_mul_right _ hil
      rw [Nat.add_mul, Nat.one_mul] at this; omega
    refine ⟨(List.range (es.length * sz)).map vs, fun w' hw' => ⟨rfl, ?_⟩, by simp, fun k u hk => ?_, fun i e j d he hd => ?_⟩
    · simp only [Builtin.firstCells]
      exact run_loadCells (P := P) w' a _ vs (fun k hk => by
        obtain ⟨i, e, j, d, he, hd, rfl⟩ := at_ k hk
        rw [cell?_heap hw']; exact hi _ _ (h4 i e j d he hd))
    · by_cases hkl : k < es.length * sz
      · simp [hkl] at hk
        subst hk
        obtain ⟨i, e, j, d, he, hd, rfl⟩ := at_ k hkl
        exact (h5 i e j d he hd).one
      · simp [hkl] at hk
    · have hk := hlt i e j d he hd
      exact ⟨vs (i * sz + j), by simp [hk], h5 i e j d he hd⟩

theorem src_nils {w : World} {sz : Nat} : Src P w (.slice none 0 0) 0 sz [] := fun w' _ => ⟨rfl, by simp [Builtin.firstCells]⟩

def isIntD : TypeDesc → Bool
  | .int _ => true
  | _ => false

/-- The run of an append whose slice has room. -/
theorem run_append_in {t t2 ty e : TypeId} {ie : TI} {d2 : TypeDesc} (ht : P.underlying t = some (.slice e)) (h2 : P.underlying t2 = some d2) (hd2 : isIntD d2 = false)
    (hie : TypeAt P e ie) {w w' : World} {xv : Value} {a : Option Addr} {n cap m : Nat} {news : List Value} (hsrc : Src P w xv m ie.size news) (hfit : n + m ≤ cap)
    (hst : match (generalizing := false) a with | some p => (storeCells (p.add (n * ie.size)) news).run P w = .ok () w' | none => w' = w) :
    (Builtin.append_ #[t, t2] ty #[.slice a n cap, xv]).run P w = .ok (.slice a (n + m) cap) w' := by
  have hl := (hsrc w rfl).1
  have hc := (hsrc w rfl).2
  unfold Builtin.append_
  simp only [List.getElem?_toArray, List.getElem?_cons_zero, List.getElem?_cons_succ, Sem.run_bind, run_underlying ht, Result.andThen_ok, hie.run_size, run_underlying h2]
  cases d2 <;> simp [isIntD] at hd2 <;> simp only [Sem.run_bind, Sem.run_pure, Result.andThen_ok, Bool.false_eq_true, if_false, hl, hfit, if_true, Bool.not_false, hc]
  all_goals
    cases a with
    | none => simp at hst; subst hst; simp
    | some p => simp at hst; simp [hst]

/-- The run of an append whose slice must grow. -/
theorem run_append_out {t t2 ty e : TypeId} {ie : TI} {d2 : TypeDesc} (ht : P.underlying t = some (.slice e)) (h2 : P.underlying t2 = some d2) (hd2 : isIntD d2 = false)
    (hie : TypeAt P e ie) {w : World} {sv xv : Value} {a : Option Addr} {n cap m : Nat} {olds news : List Value} (hsv : sv = .slice a n cap) (hold : Src P w sv n ie.size olds) (hsrc : Src P w xv m ie.size news) (hfit : cap < n + m)
    (hb : (n + m) * (ie.bytes + 1) ≤ 140737488355328) :
    ∃ newCap rest w', n + m ≤ newCap ∧ (Builtin.append_ #[t, t2] ty #[sv, xv]).run P w = .ok (.slice (some ⟨w.heap.size, 0, none⟩) (n + m) newCap) w' ∧ w'.heap = w.heap.push (.cells (olds.toArray ++ news.toArray ++ rest) e) ∧
      rest.size = (newCap - (n + m)) * ie.zero.length ∧ w'.os = w.os ∧ w'.tape = w.tape ∧ w'.output = w.output := by
  subst hsv
  have hl := (hsrc w rfl).1
  have hc := (hsrc w.drew rfl).2
  have ho := (hold w.drew rfl).2
  obtain ⟨info, hinfo, hisz, hib, z, hz, hzc⟩ := hie.info
  have hzl : z.cells.size = ie.zero.length := by have := (zrepL_ok hzc).1; simpa using this.symm
  have hb1 : (n + m) * ie.bytes ≤ 140737488355328 := Nat.le_trans (Nat.mul_le_mul_left _ (by omega)) hb
  have hb2 : n + m ≤ 140737488355328 := Nat.le_trans (by rw [Nat.mul_add]; omega) hb
  have h48 : ¬ (Builtin.nextslicecap (n + m) cap * info.bytes > 2 ^ 48) := by
    have := growslice_fits (bytes := ie.bytes) hfit hb1
    rw [hib]; omega
  have h63 : ¬ (((n + m : Nat) : Int) > IntKind.i64.max) := by simp [IntKind.max, IntKind.signed, IntKind.bits]; omega
  have hnle : ¬ (n + m ≤ cap) := by omega
  have hcap : n + m ≤ (Question.appendCap (n + m) cap e).cut (w.tape w.drawn (.appendCap (n + m) cap e)) := by simp [Question.cut]
  refine ⟨(Question.appendCap (n + m) cap e).cut (w.tape w.drawn (.appendCap (n + m) cap e)), Builtin.zeroCells z.cells ((Question.appendCap (n + m) cap e).cut (w.tape w.drawn (.appendCap (n + m) cap e)) - (n + m)),
    w.drew.alloc (.cells (olds.toArray ++ news.toArray ++ Builtin.zeroCells z.cells ((Question.appendCap (n + m) cap e).cut (w.tape w.drawn (.appendCap (n + m) cap e)) - (n + m))) e), hcap, ?_, rfl, ?_, rfl, rfl, rfl⟩
  · have hq : (Question.appendCap (n + m) cap e).forced = false := rfl
    unfold Builtin.append_
    simp only [List.getElem?_toArray, List.getElem?_cons_zero, List.getElem?_cons_succ, Sem.run_bind, run_underlying ht, Result.andThen_ok, hie.run_size, run_underlying h2]
    cases d2 <;> simp [isIntD] at hd2 <;> simp only [Sem.run_bind, Sem.run_pure, Result.andThen_ok, Bool.false_eq_true, if_false, hl, hnle, Bool.not_false, hc, Sem.run_ite, h63, false_and, if_false, typeInfo, run_program, hinfo, h48, run_choose, hq, World.drew_eq, run_askRoom, ho, zeroValue, hz, newRow, run_newObj, World.alloc_eq, Bool.not_true, if_true]
    all_goals rfl
  · simp only [Builtin.zeroCells, Array.size_map, Array.size_range, hzl]

def srcT (T : Tr) (t : Nat) : Bool := match T.find t with
  | some i => match i.kind with
    | .slice _ => true
    | .str => true
    | _ => false
  | none => false

theorem srcT_ok (hT : TOk P T) {t : Nat} (h : srcT T t = true) : ∃ d, P.underlying t = some d ∧ isIntD d = false := by
  unfold srcT at h
  split at h
  · rename_i i hf
    obtain ⟨d, hd, hk⟩ := (hT.at hf).und
    refine ⟨d, hd, ?_⟩
    split at h
    · rename_i e he; rw [he] at hk; cases d <;> simp_all [kindOk, isIntD]
    · rename_i he; rw [he] at hk; cases d <;> simp_all [kindOk, isIntD]
    · cases h
  · cases h

/-- The slice type of an append: its element's size and bytes. -/
def appT (T : Tr) (t : Nat) : Option (Nat × Nat) := match T.find t with
  | some i => match i.kind with
    | .slice e => match T.find e with
      | some ie => match Nat.beq ie.zero.length ie.size with
        | true => some (ie.size, ie.bytes)
        | false => none
      | none => none
    | _ => none
  | none => none

theorem appT_ok (hT : TOk P T) {t sz by_ : Nat} (h : appT T t = some (sz, by_)) : ∃ e ie, P.underlying t = some (.slice e) ∧ TypeAt P e ie ∧ ie.size = sz ∧ ie.bytes = by_ ∧ ie.zero.length = ie.size := by
  unfold appT at h
  split at h
  · rename_i i hf
    split at h
    · rename_i e hk
      split at h
      · rename_i ie hfe
        split at h
        case h_2 => cases h
        rename_i hzb
        cases h
        obtain ⟨d, hd, hkd⟩ := (hT.at hf).und
        rw [hk] at hkd
        cases d <;> simp [kindOk] at hkd
        subst hkd
        exact ⟨e, ie, hd, hT.at hfe, rfl, rfl, Nat.eq_of_beq_eq_true hzb⟩
      · cases h
    · cases h
  · cases h

/-- What an append takes: the elements of a slice, of nil, or the bytes of a string. -/
def asNew (sz : Nat) (x : AV) : Option (List (List Dat)) := match x with
  | .nils => some []
  | .d (.str s) => match Nat.beq sz 1 with
    | true => some (s.map fun b => [.int .u8 (b.toNat : Int)])
    | false => none
  | x => match asEs x with
    | some (sz', es) => match Nat.beq sz' sz with
      | true => some es
      | false => none
    | none => none

theorem asNew_src {G : Gh} {w : World} {sz : Nat} {x : AV} {xv : Value} {es : List (List Dat)} (hi : ∀ a x, G.imm a = some x → w.cell? a = some x) (hr : RepA G x xv) (h : asNew sz x = some es) :
    (∀ e, e ∈ es → e.length = sz) ∧ ∃ news, Src P w xv es.length sz news ∧ news.length = es.length * sz ∧ (∀ (k : Nat) (u : Value), news[k]? = some u → oneC u = true) ∧
      ∀ (i : Nat) (e : List Dat) (j : Nat) (d : Dat), es[i]? = some e → e[j]? = some d → ∃ u, news[i * sz + j]? = some u ∧ RepD G.imm d u := by
  unfold asNew at h
  split at h
  · cases h
    generalize xv = u at hr
    cases hr
    exact ⟨fun e he => (by cases he), [], src_nils, by simp, fun k u h => (by simp at h), fun i e j d h => (by simp at h)⟩
  · rename_i s
    split at h
    · rename_i hb
      obtain rfl := Nat.eq_of_beq_eq_true hb
      cases h
      rw [hr.str_inv]
      refine ⟨fun e he => ?_, s.map (fun b => .int .u8 (b.toNat : Int)), fun w' hw' => ⟨?_, ?_⟩, by simp, fun k u hk => ?_, fun i e j d he hd => ?_⟩
      · obtain ⟨b, _, rfl⟩ := List.mem_map.1 he; rfl
      · simp [Builtin.lenOf, ba_size]
      · simp only [Builtin.firstCells, List.length_map]
        have : (⟨s.toArray⟩ : ByteArray).extract 0 s.length = ⟨s.toArray⟩ := by
          apply ByteArray.ext; simp [ByteArray.data_extract]
        rw [this]
        simp
      · simp only [List.getElem?_map, Option.map_eq_some_iff] at hk
        obtain ⟨b, _, rfl⟩ := hk; rfl
      · simp only [List.getElem?_map, Option.map_eq_some_iff] at he
        obtain ⟨b, hb, rfl⟩ := he
        cases j with
        | zero => simp at hd; subst hd; exact ⟨.int .u8 b.toNat, by simp [hb], .int _ _⟩
        | succ j => simp at hd
    · cases h
  · split at h
    · rename_i sz' es' hes
      split at h
      · rename_i hb
        obtain rfl := Nat.eq_of_beq_eq_true hb
        cases h
        have hrd := asEs_ok hr hes
        refine ⟨?_, src_of_rep hi hrd⟩
        obtain ⟨a, cap, _, hn, hp⟩ := hrd.slice_inv
        cases a with
        | none => rw [(hn rfl).1]; exact fun e he => by cases he
        | some p => exact (hp p rfl).2.2.1
      · cases h
    · cases h

/-- Cells of the two parts of an appended row. -/
theorem two_parts {G : Gh} {es es2 : List (List Dat)} {sz : Nat} {olds news : List Value} (ho : olds.length = es.length * sz)
    (h1 : ∀ (i : Nat) (e : List Dat) (j : Nat) (d : Dat), es[i]? = some e → e[j]? = some d → ∃ u, olds[i * sz + j]? = some u ∧ RepD G.imm d u)
    (h2 : ∀ (i : Nat) (e : List Dat) (j : Nat) (d : Dat), es2[i]? = some e → e[j]? = some d → ∃ u, news[i * sz + j]? = some u ∧ RepD G.imm d u) :
    ∀ (i : Nat) (e : List Dat) (j : Nat) (d : Dat), (es ++ es2)[i]? = some e → e[j]? = some d → ∃ u, (olds ++ news)[i * sz + j]? = some u ∧ RepD G.imm d u := by
  intro i e j d he hd
  by_cases hi : i < es.length
  · rw [List.getElem?_append_left hi] at he
    obtain ⟨u, hu, hr⟩ := h1 i e j d he hd
    refine ⟨u, ?_, hr⟩
    rw [List.getElem?_append_left (List.getElem?_eq_some_iff.1 hu).1]; exact hu
  · rw [List.getElem?_append_right (by omega)] at he
    obtain ⟨u, hu, hr⟩ := h2 _ e j d he hd
    refine ⟨u, ?_, hr⟩
    have hge : es.length * sz ≤ i * sz := Nat.mul_le_mul_right _ (by omega)
    rw [List.getElem?_append_right (by omega), ho]
    rw [show i * sz + j - es.length * sz = (i - es.length) * sz + j by rw [Nat.sub_mul]; omega]
    exact hu

/-- An append to a slice without spare room (or nil), whose result is not appended to again. -/
theorem append_full (hT : TOk P T) {t t2 sz by_ : Nat} {s x : Operand} {es es2 : List (List Dat)} (ho : o.op = .call { callee := .builtin .append, args := #[s, x], argTypes := #[t, t2] })
    (ht : appT T t = some (sz, by_)) (ht2 : srcT T t2 = true) (hs : ρ s = .sl sz es .full ∨ (ρ s = .nils ∧ es = [])) (hx : asNew sz (ρ x) = some es2) (hb : (es.length + es2.length) * (by_ + 1) ≤ 140737488355328) :
    OpS P E o ρ h (.d (.sl sz (es ++ es2))) h :=
  OpS_of_run fun G e w hw hr => by
    have hs' : RepA G (ρ s) (e s) := hr s (by simp [ho, Op.operands, Call.operands])
    have hx' : RepA G (ρ x) (e x) := hr x (by simp [ho, Op.operands, Call.operands])
    obtain ⟨et, ie, h1, h2, rfl, rfl, hzl⟩ := appT_ok hT ht
    obtain ⟨d2, h3, h4⟩ := srcT_ok hT ht2
    obtain ⟨hlen2, news, n1, n2, n3, n4⟩ := asNew_src (P := P) hw.imm hx' hx
    obtain ⟨a, hsv, hrd⟩ : ∃ a, e s = .slice a es.length es.length ∧ RepD G.imm (.sl ie.size es) (e s) := by
      rcases hs with hs | ⟨hs, rfl⟩
      · rw [hs] at hs'
        generalize e s = u at hs'
        cases hs' with
        | sl r k => obtain ⟨a, rfl⟩ := k; exact ⟨a, rfl, r⟩
      · rw [hs] at hs'
        generalize e s = u at hs'
        cases hs'
        exact ⟨none, rfl, .nil _⟩
    obtain ⟨olds, o1, o2, o3, o4⟩ := src_of_rep (P := P) hw.imm hrd
    have hex : (execOp e o).run P w = ((Builtin.append_ #[t, t2] o.type #[e s, e x]).run P w).andThen fun u w' => .ok (.value u) w' := by
      unfold execOp
      simp [ho, resolve, invoke, builtin]
    by_cases hz : es2 = []
    · subst hz
      have hn : news = [] := by simpa using n2
      subst hn
      have hrun := run_append_in (ty := o.type) h1 h3 h4 h2 (w' := w) (a := a) (n := es.length) (cap := es.length) n1 (by simp) (by cases a <;> simp [storeCells])
      refine ⟨e s, w, G, ?_, .refl G, hw, .d (by simpa using hrd)⟩
      rw [hex, hsv, hrun]; simp
    · have hpos : 0 < es2.length := List.length_pos_iff.2 hz
      obtain ⟨newCap, rest, w', c1, c2, c3, c4, c5, c6, c7⟩ := run_append_out (ty := o.type) h1 h3 h4 h2 hsv o1 n1 (by omega) hb
      have hle := immExt_le hw ((es ++ es2).length * ie.size) (olds.toArray ++ news.toArray ++ rest)
      have hnew := hw.newImm ((es ++ es2).length * ie.size) _ et w' c3 c5 c6 c7
      have hlen1 : ∀ el, el ∈ es → el.length = ie.size := by
        obtain ⟨a', cap', _, hn, hp⟩ := hrd.slice_inv
        cases a' with
        | none => rw [(hn rfl).1]; exact fun e he => by cases he
        | some p => exact (hp p rfl).2.2.1
      refine ⟨_, w', _, by rw [hex, c2]; rfl, hle, hnew, .d ?_⟩
      rw [show es.length + es2.length = (es ++ es2).length by simp]
      refine newImm_rep (fun el hel => by
        rcases List.mem_append.1 hel with hel | hel
        · exact hlen1 el hel
        · exact hlen2 el hel) (Nat.le_refl _) _ (by simpa using c1) (fun i el j d he hd => ?_)
      obtain ⟨u, hu, hru⟩ := two_parts o2 o4 n4 i el j d he hd
      refine ⟨u, ?_, hru.mono hle.imm⟩
      rw [Array.getElem?_append_left]
      · simpa using hu
      · have := (List.getElem?_eq_some_iff.1 hu).1; simpa using this
end
end Tdoc
