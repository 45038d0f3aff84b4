/- A law's statement out of its contract: the world before the call as a ghost state, the reading behind the call. No program is named here. -/
import Derived.Test.YtkkfcpohiofinaaDoorB5
import Derived.WalkKit
import Derived.ProofKit
import Derived.OpenShut
import Derived.JoinedCond
set_option linter.unusedSimpArgs false
set_option linter.unusedVariables false
namespace Tdoc
open Go Go.ChangeShapes Go.WideShapes Go.ChangeAt Go.RowKit

/-- All that lies in memory before the call counts as data that does not turn. -/
def GW (W : World) : Gh := ⟨fun a => W.cell? a, fun _ => none, fun _ _ => none, fun _ => none⟩

theorem WRel_start (W : World) (ht : TabOk (GW W).imm) : WRel ⟨W, GW W, ht⟩ (GW W) [] W where
  le := .refl _
  imm := fun _ _ h => h
  immNew := fun _ _ h => .inl h
  keep := fun _ _ => rfl
  size := Nat.le_refl _
  os := rfl
  tape := rfl
  output := rfl
  own := fun b i h => by cases h
  fresh := fun i _ => ⟨rfl, fun _ => rfl⟩
  obj := fun i o h => by simp at h

theorem law_calls {P : Program} {f : FuncId} {avs : List AV} {W : World} {vals : Array Value} (ht : TabOk (GW W).imm) (hs : Spec P f avs [] (fun r h' => r = .d (.bool true) ∧ h' = [])) (hlen : vals.size = avs.length)
    (hrep : ∀ (j : Nat) (x : AV) (v : Value), avs[j]? = some x → vals[j]? = some v → RepA (GW W) x v) :
    Calls P f vals W (fun e W' => e = .returned (.bool true) ∧ Below W.heap.size W W') :=
  (hs.2 (GW W) W vals hlen hrep ht (WRel_start W ht)).mono fun e W' ⟨v, r, h', G', he, ⟨hr, hh⟩, _, _, _, hrp, hw⟩ => by
    subst hr
    rw [hrp.bool_inv] at he
    exact ⟨he, hw.os, hw.tape, hw.output, hw.size, fun k hk => hw.keep k ⟨hk, rfl⟩⟩

section
variable {H : Type} {enc : TypeId × Value → H} {P : Program}

theorem trodAll_below (hl : laidOutB P = true) {W W' : World} (hb : Below W.heap.size W W') {sp : Nat → Bool} :
    ∀ {ts : List TypeId} {vs : List Value} {ds : List (DataW H)} {ps : List MemPlace}, ts.all (fun t => P.readableRec t && decide (t < P.types.size)) = true →
      DataW.TrodAll enc P W 0 (fun _ => true) true ts vs ds ps → (∀ p ∈ ps, p.block < W.heap.size) → (∀ p ∈ ps, sp p.block = true) → DataW.TrodAll enc P W' 0 sp true ts vs ds ps
  | [], _, _, _, _, h, _, _ => by
    obtain ⟨rfl, rfl, rfl⟩ := trodAll_nil h
    exact trodAll_mk0
  | t :: ts, _, _, _, hr, h, hlt, hsp => by
    obtain ⟨v, vs1, d, ds1, a, b, rfl, rfl, rfl, h1, h2⟩ := trodAll_cons h
    simp only [List.all_cons, Bool.and_eq_true, decide_eq_true_eq] at hr
    exact trodAll_cons_mk (WideElems.Trod_stays hl hr.1.1 hr.1.2 h1 (fun x hx => hb.same (hlt x (by simp [hx]))) (fun x hx => hsp x (by simp [hx])))
      (trodAll_below hl hb (by simpa using hr.2) h2 (fun x hx => hlt x (by simp [hx])) (fun x hx => hsp x (by simp [hx])))

theorem law_post {f : Func} {s : ChangeSpec} {again : Bool} {W W' : World} {args : Array Value} {ds gs : List (DataW H)} {before : List MemPlace} {tb : TypeId} (hl : laidOutB P = true)
    (hr : f.params.toList.all (fun t => P.readableRec t && decide (t < P.types.size)) = true) (hres : f.resultTypes = #[tb]) (htb : P.underlying tb = some .bool) (hvars : s.vars = [])
    (hW : DataW.Whole enc P f.params.toList s.vars false W args.toList ds gs before) (hfn : s.fn H (ds ++ gs) = { results := [.lit (.bool true)], args := ds }) (hb : Below W.heap.size W W') :
    s.post enc P f false true false again W args (.bool true) W' := by
  have hW0 := hW
  have hlt := hW.lt
  obtain ⟨p, q, hA, hV, rfl, hfz, hnd⟩ := hW
  rw [hvars] at hV
  obtain ⟨rfl, rfl⟩ := trodVars_none hV
  have hargs : ∀ sp : Nat → Bool, (∀ x ∈ p ++ [], sp x.block = true) → DataW.TrodAll enc P W' 0 sp true f.params.toList args.toList (s.fn H (ds ++ [])).args p := by
    intro sp hsp
    rw [hfn]
    exact trodAll_below hl hb hr hA (fun x hx => hlt x (by simp [hx])) (fun x hx => hsp x (by simp [hx]))
  have hv : ∀ sp : Nat → Bool, DataW.TrodVars enc P W' sp s.vars (s.fn H (ds ++ [])).vars [] := by
    intro sp; rw [hfn, hvars]; rfl
  have hrs : ∀ (b : Nat) (sp : Nat → Bool) (hd : Bool), DataW.TrodAll enc P W' b sp hd f.resultTypes.toList ((Value.bool true).resultList f.resultTypes.size) (s.fn H (ds ++ [])).results [] := by
    intro b sp hd
    rw [hfn, hres]
    exact trodAll_cons_mk (shut_bool htb _) trodAll_mk0
  refine ⟨ds, [], p ++ [], [], p, [], hW0, hrs _ _ _, hargs _ (fun x hx => by simpa using hlt x hx), hv _, World.keptBut_mono (fun p hp => ⟨hp, ?_⟩) (hb.frame (· ∈ p ++ [])), fun _ => ?_⟩
  · exact Or.inr (Or.inl (by simpa using hp))
  · refine ⟨ok_one hres rfl (okWide_bool_mk htb _), _, _, ([] ++ p) ++ [], ⟨[] ++ p, [], trodAll_append (hargs _ (fun _ _ => rfl)) (hrs _ _ _), hv _, rfl, ?_, fun h => by cases h⟩, ?_⟩
    · intro b off hp
      rw [hb.frozen (p := ⟨b, off, none⟩) (hlt (.cell b off) (by simpa using hp))]
      exact hfz b off (by simpa using hp)
    · intro x hx _
      simpa using hx

/-! the arguments -/
theorem open_str {r : Reach} {b0 : Nat} {W : World} {t : TypeId} {v : Value} {d : DataW H} {ps : List MemPlace} (ht : P.underlying t = some .string) (hval : Value.okWide P W r b0 t v)
    (hd : DataW.Trod enc P W 0 (fun _ => true) true t v d ps) : ∃ s : List UInt8, s.length ≤ maxLen ∧ RepA (GW W) (.d (.str s)) v := by
  obtain ⟨s, rfl, _, _, h⟩ := Go.ChangeMaps.open_string ht hval hd
  obtain ⟨⟨l⟩⟩ := s
  exact ⟨l, by simpa [ByteArray.size] using h, .d (.str l)⟩

theorem open_num {r : Reach} {b0 : Nat} {W : World} {t : TypeId} {k : IntKind} {v : Value} {d : DataW H} {ps : List MemPlace} (ht : P.underlying t = some (.int k)) (hval : Value.okWide P W r b0 t v)
    (hd : DataW.Trod enc P W 0 (fun _ => true) true t v d ps) : ∃ n : Int, (Lit.int k n).wf = true ∧ RepA (GW W) (.d (.int k n)) v := by
  obtain ⟨a0, rfl, rfl, rfl, w0⟩ := open_int ht hval hd
  exact ⟨a0, w0, .d (.int k a0)⟩

theorem open_flag {r : Reach} {b0 : Nat} {W : World} {t : TypeId} {v : Value} {d : DataW H} {ps : List MemPlace} (ht : P.underlying t = some .bool) (hval : Value.okWide P W r b0 t v)
    (hd : DataW.Trod enc P W 0 (fun _ => true) true t v d ps) : ∃ b : Bool, RepA (GW W) (.d (.bool b)) v := by
  obtain ⟨b, rfl, rfl, rfl⟩ := open_bool ht hval hd
  exact ⟨b, .d (.bool b)⟩

/-- A list of numbers as abstract data. -/
def numsD (k : IntKind) (zs : List Int) : List (List Dat) := zs.map fun n => [.int k n]

theorem RepD_nums {W : World} {k : IntKind} {a : Addr} {len cap : Nat} {zs : List Int} (hs : a.spot = none) (hlc : len ≤ cap) (hl : len ≤ zs.length) (hcell : ∀ i, i < zs.length → W.cell? (a.add i) = some (.int k (zs.getD i 0))) :
    RepD (GW W).imm (.sl 1 (numsD k (zs.take len))) (.slice (some a) len cap) := by
  have hz : (numsD k (zs.take len)).length = len := by simp [numsD]; omega
  have h := RepD.sl (m := (GW W).imm) 1 (numsD k (zs.take len)) a cap (fun j => .int k (zs.getD j 0)) hs (by omega) (fun e he => ?_) (fun i e j d he hd => ?_) (fun i e j d he hd => ?_)
  · rw [hz] at h; exact h
  · simp only [numsD, List.mem_map] at he
    obtain ⟨n, _, rfl⟩ := he; rfl
  · have hi : i < len := by rw [← hz]; exact (List.getElem?_eq_some_iff.1 he).1
    simp only [numsD, List.getElem?_map, Option.map_eq_some_iff] at he
    obtain ⟨n, hn, rfl⟩ := he
    cases j with
    | zero => simpa [GW] using hcell i (by omega)
    | succ j => simp at hd
  · have hi : i < len := by rw [← hz]; exact (List.getElem?_eq_some_iff.1 he).1
    simp only [numsD, List.getElem?_map, Option.map_eq_some_iff] at he
    obtain ⟨n, hn, rfl⟩ := he
    cases j with
    | zero =>
      simp only [List.getElem?_cons_zero, Option.some.injEq] at hd
      subst hd
      rw [List.getElem?_take] at hn
      simp only [hi, if_true] at hn
      have : zs.getD (i * 1 + 0) 0 = n := by simp [List.getD, hn]
      simp only [this]
      exact .int k n
    | succ j => simp at hd

theorem open_nums {r : Reach} {b0 : Nat} {W : World} {t e : TypeId} {k : IntKind} {v : Value} {d : DataW H} {ps : List MemPlace} (ht : P.underlying t = some (.slice e)) (he : P.underlying e = some (.int k))
    (hc : P.cellsOf e = 1) (hval : Value.okWide P W r b0 t v)
    (hd : DataW.Trod enc P W 0 (fun _ => true) true t v d ps) : ∃ zs : List Int, (∀ n, n ∈ zs → (Lit.int k n).wf = true) ∧ zs.length ≤ maxLen ∧ RepA (GW W) (.d (.sl 1 (numsD k zs))) v := by
  obtain ⟨a0, len0, cap0, rfl⟩ := okWide_slice ht hval
  obtain ⟨fuel, hf⟩ := hd
  rcases open_ints ht he hc hf with ⟨h1, h2⟩ | ⟨a, len, cap, zs, h1, h2, h3, h4, h5, h6, h7, h8⟩
  · simp [Value.cells] at h1
    obtain ⟨rfl, rfl, rfl⟩ := h1
    exact ⟨[], by simp, by simp, .d (.nil 1)⟩
  · simp [Value.cells] at h1
    obtain ⟨rfl, rfl, rfl⟩ := h1
    simp only [if_true] at h5
    have hsp : a.spot = none := by
      simp only [Value.okWide, ht, Cell.okWide, Cell.ok] at hval
      exact hval.2.2.2.1
    exact ⟨zs.take len0, fun n hn => h8 n (List.mem_of_mem_take hn), by simp; omega, .d (RepD_nums hsp h3 (by omega) h7)⟩
end
end Tdoc
