/- The small side conditions of steps, found by a default. No program is named here. -/
import Derived.Test.YtoaogfehdalmdaaK2
import Derived.KernelRfl
import Derived.Test.YtoaogfehdalmdaaProg
import Derived.WalkKit
import Derived.ProofKit
import Derived.OpenShut
import Derived.JoinedCond
set_option linter.unusedSimpArgs false
set_option linter.unusedVariables false
namespace Tdoc
open Go

theorem sd {C : Prop} (h : C := by first | exact True.intro | exact (fun hh => hh) | omega | assumption | (intro hh; rw [hh]; rfl) | (intro hh; simp [gval, hh]; done) | (simp; omega)) : C := h
theorem sg {ex : Bool} {A C : Prop} (hg : ex = true) (h1 : A := by first | exact True.intro | exact ⟨hg, True.intro⟩ | exact ⟨hg, hg, True.intro⟩ | (refine ⟨?_, True.intro⟩; simp at hg; simp [hg]; done) | (refine ⟨?_, ?_, True.intro⟩ <;> (simp at hg; simp [hg]; done))) (h2 : C := by first | exact True.intro | (intro hh; rw [hg, hh]; rfl) | (intro hh; simp [gval, hh, hg]; done) | (intro hh; simp only [gval, hh, hg, Bool.not_false, Bool.not_true, Bool.and_true, Bool.true_and]; done) | (intro hh; simp only [gval] at hg; simp only [gval, hh, hg, Bool.not_false, Bool.and_true, Bool.true_and]; done) | (simp [gval] at hg; first | omega | (simp; done) | (simp; omega))) : A ∧ C := ⟨h1, h2⟩
theorem sm {C : Prop} (h : C := by first | (simp; done) | exact List.mem_cons_self | exact List.mem_cons_of_mem _ List.mem_cons_self) : C := h

section
variable {P : Program} {E : Env} {N : Nat} {T : Tr} {ops : List Oper} {rest : List Oper} {op : Op} {ty : TypeId} {pos : String} {after : Array Edge} {l : List (Nat × AV)} {h h' : List AObj} {v : AV} {C : Prop}

/-! steps with their side conditions found by themselves -/
theorem wd (hT : TOk P T) {n : Nat} {Q : (Nat → AV) → List AObj → Prop} {i d : Nat} (hs : astep T op (ev (look l)) h = some (v, h, C)) (hd : Nat.blt d N = true) (hn : h.length = n) (hk : AWd P E N ops (fun _ => List.range n) (fun _ => []) Q rest (i + 1) (look ((d, v) :: l)) h)
    (hC : C := by first | exact True.intro | omega | exact sd) : AWd P E N ops (fun _ => List.range n) (fun _ => []) Q (⟨some d, op, ty, pos, after, none⟩ :: rest) i (look l) h := AWd_step hT hs hd hn hC hk
theorem wk (hT : TOk P T) {Q : (Nat → AV) → List AObj → Prop} {d : Nat} (hs : astep T op (ev (look l)) h = some (v, h', C)) (hd : Nat.blt d N = true) (hk : AWk P E N ops Q rest (look ((d, v) :: l)) h')
    (hC : C := by first | exact True.intro | omega | exact sd) : AWk P E N ops Q (⟨some d, op, ty, pos, after, none⟩ :: rest) (look l) h := AWk_step hT hs hd hC hk
theorem wz (hT : TOk P T) {Q : (Nat → AV) → List AObj → Prop} (hs : astep T op (ev (look l)) h = some (v, h', C)) (hk : AWk P E N ops Q rest (look l) h')
    (hC : C := by first | exact True.intro | omega | exact sd) : AWk P E N ops Q (⟨none, op, ty, pos, after, none⟩ :: rest) (look l) h := AWk_step0 hT hs hC hk
theorem wg (hT : TOk P T) {n : Nat} {Q : (Nat → AV) → List AObj → Prop} {i d j gd : Nat} {want ex : Bool} (hg : gslot ops l j want = some (gd, ex)) (hs : astep T op (evG (look l) op) h = some (v, h, C)) (hd : Nat.blt d N = true) (hgd : Nat.blt gd N = true) (hn : h.length = n)
    (hk : AWd P E N ops (fun _ => List.range n) (fun _ => []) Q rest (i + 1) (look ((d, .gd ex v) :: l)) h) (hC : ex = true → gAll (look l) (gOps op) ∧ C := by intro hg; first | exact ⟨True.intro, True.intro⟩ | exact sg hg) :
    AWd P E N ops (fun _ => List.range n) (fun _ => []) Q (⟨some d, op, ty, pos, after, some (j, want)⟩ :: rest) i (look l) h := AWd_gstep hT hg hs hd hgd hn hC hk
theorem wh (hT : TOk P T) {Q : (Nat → AV) → List AObj → Prop} {d j gd : Nat} {want ex : Bool} (hg : gslot ops l j want = some (gd, ex)) (hs : astep T op (evG (look l) op) h = some (v, h, C)) (hd : Nat.blt d N = true) (hgd : Nat.blt gd N = true)
    (hk : AWk P E N ops Q rest (look ((d, .gd ex v) :: l)) h) (hC : ex = true → gAll (look l) (gOps op) ∧ C := by intro hg; first | exact ⟨True.intro, True.intro⟩ | exact sg hg) :
    AWk P E N ops Q (⟨some d, op, ty, pos, after, some (j, want)⟩ :: rest) (look l) h := AWk_gstep hT hg hs hd hgd hC hk
theorem wx {id : Nat} {Q : Exit → (Nat → AV) → List AObj → Prop} {τ : Nat → AV} (hm : P.follows .mixedOrders = true) (H : AWd P E N ops (fun _ => List.range h.length) (fun _ => []) (Q .normal) ops 0 τ h)
    (hB : lexD ops.toArray (fun _ => List.range h.length) (fun _ => []) ops.length 0 (Array.replicate ops.length false) = true := by kernel_rfl) : AW P E N (.region id ops.toArray true) Q τ h := AW_draw hm hB H

/-! ends -/
variable {rs : List ResultVar} {k : Nat} {Q : AV → List AObj → Prop} {τ : Nat → AV} {r : AV}
theorem rx (h7 : Q v h') (h1 : resA T τ h rs = some v := by exact rfl) (h3 : h' = h.take k := by exact rfl) (h4 : h'.length = k := by exact rfl) (h5 : low k v = true := by exact rfl) (h6 : lowH k h' = true := by exact rfl) : retP T rs k Q .ret τ h := ⟨v, v, h', h1, fun _ _ h => h, h3, h4, h5, h6, h7⟩
theorem rxN (h7 : Q v h') (h1 : resA T τ h rs = some v := by exact rfl) (h3 : h' = h.take k := by exact rfl) (h4 : h'.length = k := by exact rfl) (h5 : low k v = true := by exact rfl) (h6 : lowH k h' = true := by exact rfl) : retP T rs k Q .normal τ h := ⟨v, v, h', h1, fun _ _ h => h, h3, h4, h5, h6, h7⟩
theorem rq (h7 : Q r h') (h1 : resA T τ h rs = some v) (h2 : AV.le v r) (h3 : h' = h.take k := by exact rfl) (h4 : h'.length = k := by exact rfl) (h5 : low k r = true := by exact rfl) (h6 : lowH k h' = true := by exact rfl) : retP T rs k Q .ret τ h := ⟨v, r, h', h1, h2, h3, h4, h5, h6, h7⟩
theorem rqN (h7 : Q r h') (h1 : resA T τ h rs = some v) (h2 : AV.le v r) (h3 : h' = h.take k := by exact rfl) (h4 : h'.length = k := by exact rfl) (h5 : low k r = true := by exact rfl) (h6 : lowH k h' = true := by exact rfl) : retP T rs k Q .normal τ h := ⟨v, r, h', h1, h2, h3, h4, h5, h6, h7⟩
end

theorem li {k : IntKind} {a b : Int} (h : a = b := by first | assumption | omega | (rw [wrap_id (by omega)]; omega) | (simp only [wrap_id (by omega)]; omega)) : AV.le (.d (.int k a)) (.d (.int k b)) := .eq (congrArg (fun z => AV.d (.int k z)) h)
theorem lb {a b : Bool} (h : a = b := by first | assumption | (simp; done) | (simp; omega)) : AV.le (.d (.bool a)) (.d (.bool b)) := .eq (congrArg (fun z => AV.d (.bool z)) h)
theorem ls {sz : Nat} {a b : List (List Dat)} (h : a = b := by first | assumption | (simp; done)) : AV.le (.d (.sl sz a)) (.d (.sl sz b)) := .eq (congrArg (fun z => AV.d (.sl sz z)) h)
theorem lk {sz : Nat} {a b : List (List Dat)} {t : Tok} (h : a = b := by first | assumption | (simp; done)) : AV.le (.sl sz a t) (.sl sz b t) := .eq (congrArg (fun z => AV.sl sz z t) h)
theorem ld {sz : Nat} {a b : List (List Dat)} {t : Tok} (h : a = b := by first | assumption | (simp; done)) : AV.le (.sl sz a t) (.d (.sl sz b)) := .trans .dat (.eq (congrArg (fun z => AV.d (.sl sz z)) h))
theorem lz {a b : List UInt8} (h : a = b := by first | assumption | (simp; done)) : AV.le (.d (.str a)) (.d (.str b)) := .eq (congrArg (fun z => AV.d (.str z)) h)
end Tdoc
/- The table of this seat's types, printed by program, and that it fits the program. -/
namespace Tdoc
open Go Go.Proofs

def T : Tr := (.nd (.nd (.nd (.nd (.nd (.nd (.nd .lf 1 ⟨.fn, 1, 8, [.nilf]⟩ .lf) 2 ⟨.int .i64, 1, 8, [.d (.int .i64 0)]⟩ .lf) 3 ⟨.int .i64, 1, 8, [.d (.int .i64 0)]⟩ (.nd (.nd .lf 4 ⟨.bool, 1, 1, [.d (.bool false)]⟩ .lf) 5 ⟨.int .u8, 1, 1, [.d (.int .u8 0)]⟩ .lf)) 7 ⟨.struct [(0, 1, false), (1, 1, false), (2, 1, false), (3, 1, false)], 4, 24, [.d (.int .i64 0), .d (.int .i64 0), .d (.bool false), .d (.int .u8 0)]⟩ (.nd (.nd (.nd .lf 9 ⟨.str, 1, 16, [.d (.str [])]⟩ .lf) 12 ⟨.int .u64, 1, 8, [.d (.int .u64 0)]⟩ .lf) 13 ⟨.struct [(0, 1, false), (1, 1, false)], 2, 24, [.d (.str []), .d (.int .u64 0)]⟩ (.nd .lf 18 ⟨.struct [(0, 1, false)], 1, 8, [.nilp]⟩ .lf))) 21 ⟨.int .i32, 1, 4, [.d (.int .i32 0)]⟩ (.nd (.nd (.nd (.nd .lf 22 ⟨.slice 3, 1, 24, [.sl 1 [] .full]⟩ .lf) 23 ⟨.fn, 1, 8, [.nilf]⟩ .lf) 24 ⟨.fn, 1, 8, [.nilf]⟩ (.nd .lf 25 ⟨.slice 43, 1, 24, [.sl 6 [] .full]⟩ .lf)) 26 ⟨.struct [(0, 1, false)], 1, 24, [.sl 6 [] .full]⟩ (.nd (.nd (.nd .lf 27 ⟨.struct [(0, 1, false)], 1, 24, [.sl 6 [] .full]⟩ .lf) 28 ⟨.fn, 1, 8, [.nilf]⟩ .lf) 29 ⟨.fn, 1, 8, [.nilf]⟩ (.nd .lf 30 ⟨.int .i64, 1, 8, [.d (.int .i64 0)]⟩ .lf)))) 32 ⟨.fn, 1, 8, [.nilf]⟩ (.nd (.nd (.nd (.nd (.nd .lf 33 ⟨.fn, 1, 8, [.nilf]⟩ .lf) 34 ⟨.fn, 1, 8, [.nilf]⟩ .lf) 35 ⟨.struct [(0, 1, false), (1, 1, false)], 2, 16, [.d (.int .i64 0), .d (.int .i64 0)]⟩ (.nd (.nd .lf 36 ⟨.struct [(0, 1, false), (1, 1, false)], 2, 16, [.d (.int .i64 0), .d (.int .i64 0)]⟩ .lf) 37 ⟨.slice 36, 1, 24, [.sl 2 [] .full]⟩ .lf)) 38 ⟨.fn, 1, 8, [.nilf]⟩ (.nd (.nd (.nd .lf 39 ⟨.slice 41, 1, 24, [.sl 4 [] .full]⟩ .lf) 40 ⟨.struct [(0, 1, false), (1, 1, false), (2, 1, false), (3, 1, false)], 4, 48, [.d (.int .i64 0), .d (.int .i64 0), .d (.int .i64 0), .sl 4 [] .full]⟩ .lf) 41 ⟨.struct [(0, 1, false), (1, 1, false), (2, 1, false), (3, 1, false)], 4, 48, [.d (.int .i64 0), .d (.int .i64 0), .d (.int .i64 0), .sl 4 [] .full]⟩ (.nd .lf 42 ⟨.struct [(0, 1, false), (1, 1, false), (2, 4, true)], 6, 64, [.d (.int .i64 0), .d (.bool false), .d (.int .i64 0), .d (.int .i64 0), .d (.int .i64 0), .sl 4 [] .full]⟩ .lf))) 43 ⟨.struct [(0, 1, false), (1, 1, false), (2, 4, true)], 6, 64, [.d (.int .i64 0), .d (.bool false), .d (.int .i64 0), .d (.int .i64 0), .d (.int .i64 0), .sl 4 [] .full]⟩ (.nd (.nd (.nd (.nd .lf 44 ⟨.fn, 1, 8, [.nilf]⟩ .lf) 45 ⟨.ptr, 1, 8, [.nilp]⟩ .lf) 46 ⟨.fn, 1, 8, [.nilf]⟩ (.nd .lf 47 ⟨.fn, 1, 8, [.nilf]⟩ .lf)) 48 ⟨.fn, 1, 8, [.nilf]⟩ (.nd (.nd (.nd .lf 49 ⟨.ptr, 1, 8, [.nilp]⟩ .lf) 50 ⟨.slice 5, 1, 24, [.sl 1 [] .full]⟩ .lf) 51 ⟨.struct [(0, 1, false), (1, 1, false)], 2, 32, [.nilp, .sl 1 [] .full]⟩ (.nd .lf 52 ⟨.struct [(0, 1, false), (1, 1, false)], 2, 32, [.nilp, .sl 1 [] .full]⟩ .lf))))) 56 ⟨.fn, 1, 8, [.nilf]⟩ (.nd (.nd (.nd (.nd (.nd (.nd .lf 57 ⟨.fn, 1, 8, [.nilf]⟩ .lf) 58 ⟨.slice 9, 1, 24, [.sl 1 [] .full]⟩ .lf) 59 ⟨.fn, 1, 8, [.nilf]⟩ (.nd (.nd .lf 60 ⟨.fn, 1, 8, [.nilf]⟩ .lf) 61 ⟨.fn, 1, 8, [.nilf]⟩ .lf)) 62 ⟨.ptr, 1, 8, [.nilp]⟩ (.nd (.nd (.nd .lf 63 ⟨.struct [(0, 1, false), (1, 1, false)], 2, 24, [.d (.str []), .d (.int .i64 0)]⟩ .lf) 64 ⟨.struct [(0, 1, false), (1, 1, false)], 2, 24, [.d (.str []), .d (.int .i64 0)]⟩ .lf) 65 ⟨.struct [(0, 1, false), (1, 1, false), (2, 2, true), (4, 1, false)], 5, 56, [.d (.str []), .d (.int .i64 0), .d (.str []), .d (.int .i64 0), .d (.bool false)]⟩ (.nd .lf 66 ⟨.struct [(0, 1, false), (1, 1, false), (2, 2, true), (4, 1, false)], 5, 56, [.d (.str []), .d (.int .i64 0), .d (.str []), .d (.int .i64 0), .d (.bool false)]⟩ .lf))) 67 ⟨.fn, 1, 8, [.nilf]⟩ (.nd (.nd (.nd (.nd .lf 68 ⟨.fn, 1, 8, [.nilf]⟩ .lf) 69 ⟨.fn, 1, 8, [.nilf]⟩ .lf) 70 ⟨.struct [(0, 1, false), (1, 1, false)], 2, 32, [.sl 1 [] .full, .d (.int .i64 0)]⟩ (.nd .lf 71 ⟨.struct [(0, 1, false), (1, 1, false)], 2, 32, [.sl 1 [] .full, .d (.int .i64 0)]⟩ .lf)) 72 ⟨.fn, 1, 8, [.nilf]⟩ (.nd (.nd (.nd .lf 73 ⟨.fn, 1, 8, [.nilf]⟩ .lf) 74 ⟨.fn, 1, 8, [.nilf]⟩ .lf) 75 ⟨.ptr, 1, 8, [.nilp]⟩ (.nd .lf 76 ⟨.fn, 1, 8, [.nilf]⟩ .lf)))) 77 ⟨.fn, 1, 8, [.nilf]⟩ (.nd (.nd (.nd (.nd (.nd .lf 78 ⟨.fn, 1, 8, [.nilf]⟩ .lf) 79 ⟨.fn, 1, 8, [.nilf]⟩ .lf) 80 ⟨.fn, 1, 8, [.nilf]⟩ (.nd (.nd .lf 81 ⟨.fn, 1, 8, [.nilf]⟩ .lf) 82 ⟨.fn, 1, 8, [.nilf]⟩ .lf)) 83 ⟨.fn, 1, 8, [.nilf]⟩ (.nd (.nd (.nd .lf 85 ⟨.fn, 1, 8, [.nilf]⟩ .lf) 86 ⟨.fn, 1, 8, [.nilf]⟩ .lf) 87 ⟨.fn, 1, 8, [.nilf]⟩ (.nd .lf 88 ⟨.fn, 1, 8, [.nilf]⟩ .lf))) 89 ⟨.fn, 1, 8, [.nilf]⟩ (.nd (.nd (.nd (.nd .lf 90 ⟨.fn, 1, 8, [.nilf]⟩ .lf) 91 ⟨.fn, 1, 8, [.nilf]⟩ .lf) 92 ⟨.fn, 1, 8, [.nilf]⟩ (.nd .lf 93 ⟨.struct [(0, 1, false), (1, 1, false), (2, 1, false), (3, 1, false)], 4, 40, [.nilp, .nilp, .nilp, .d (.str [])]⟩ .lf)) 95 ⟨.array 0 16, 0, 0, []⟩ (.nd (.nd (.nd .lf 96 ⟨.struct [(0, 0, true)], 0, 0, []⟩ .lf) 98 ⟨.int .u32, 1, 4, [.d (.int .u32 0)]⟩ .lf) 101 ⟨.fn, 1, 8, [.nilf]⟩ (.nd .lf 104 ⟨.struct [(0, 1, false), (1, 1, false), (2, 1, false), (3, 1, false), (4, 1, false), (5, 1, false), (6, 1, false), (7, 1, false), (8, 1, false), (9, 1, false), (10, 1, false)], 11, 48, [.d (.int .u64 0), .d (.int .u64 0), .d (.int .u32 0), .d (.int .u8 0), .d (.int .u8 0), .d (.int .u8 0), .d (.int .u8 0), .nilf, .nilp, .d (.int .i32 0), .d (.int .i32 0)]⟩ .lf))))))
theorem hT : TOk Try.prog T := ⟨by kernel_rfl⟩
theorem mixed : Try.prog.follows .mixedOrders = true := by kernel_rfl
end Tdoc
/- A law's statement out of its contract: the world before the call as a ghost state, the reading behind the call. No program is named here. -/
set_option linter.unusedSimpArgs false
set_option linter.unusedVariables false
namespace Tdoc
open Go Go.ChangeShapes Go.WideShapes Go.ChangeAt Go.RowKit

/-- All that lies in memory before the call counts as data that does not turn. -/
def GW (W : World) : Gh := ⟨fun a => W.cell? a, fun _ => none, fun _ _ => none, fun _ => none⟩

theorem WRel_start (W : World) (ht : TabOk W (GW W)) : WRel ⟨W, GW W, ht⟩ (GW W) [] W where
  le := .refl _
  imm := fun _ _ h => h
  immNew := fun _ _ h => .inl h
  keep := fun _ _ => rfl
  size := Nat.le_refl _
  os := rfl
  tape := rfl
  output := rfl
  own := fun b i h => by cases h
  fresh := fun i _ => ⟨rfl, fun _ => rfl⟩
  obj := fun i o h => by simp at h

theorem law_calls {P : Program} {f : FuncId} {avs : List AV} {W : World} {vals : Array Value} (ht : TabOk W (GW W)) (hs : Spec P f avs [] (fun r h' => r = .d (.bool true) ∧ h' = [])) (hlen : vals.size = avs.length)
    (hrep : ∀ (j : Nat) (x : AV) (v : Value), avs[j]? = some x → vals[j]? = some v → RepA (GW W) x v) :
    Calls P f vals W (fun e W' => e = .returned (.bool true) ∧ Below W.heap.size W W') :=
  (hs.2 (GW W) W vals hlen hrep ht (WRel_start W ht)).mono fun e W' ⟨v, r, h', G', he, ⟨hr, hh⟩, _, _, _, hrp, hw⟩ => by
    subst hr
    rw [hrp.bool_inv] at he
    exact ⟨he, hw.os, hw.tape, hw.output, hw.size, fun k hk => hw.keep k ⟨hk, rfl⟩⟩

section
variable {H : Type} {enc : TypeId × Value → H} {P : Program}

theorem trodAll_below (hl : laidOutB P = true) {W W' : World} (hb : Below W.heap.size W W') {sp : Nat → Bool} :
    ∀ {ts : List TypeId} {vs : List Value} {ds : List (DataW H)} {ps : List MemPlace}, ts.all (fun t => P.readableRec t && decide (t < P.types.size)) = true →
      DataW.TrodAll enc P W 0 (fun _ => true) true ts vs ds ps → (∀ p ∈ ps, p.block < W.heap.size) → (∀ p ∈ ps, sp p.block = true) → DataW.TrodAll enc P W' 0 sp true ts vs ds ps
  | [], _, _, _, _, h, _, _ => by
    obtain ⟨rfl, rfl, rfl⟩ := trodAll_nil h
    exact trodAll_mk0
  | t :: ts, _, _, _, hr, h, hlt, hsp => by
    obtain ⟨v, vs1, d, ds1, a, b, rfl, rfl, rfl, h1, h2⟩ := trodAll_cons h
    simp only [List.all_cons, Bool.and_eq_true, decide_eq_true_eq] at hr
    exact trodAll_cons_mk (WideElems.Trod_stays hl hr.1.1 hr.1.2 h1 (fun x hx => hb.same (hlt x (by simp [hx]))) (fun x hx => hsp x (by simp [hx])))
      (trodAll_below hl hb (by simpa using hr.2) h2 (fun x hx => hlt x (by simp [hx])) (fun x hx => hsp x (by simp [hx])))

theorem law_post {f : Func} {s : ChangeSpec} {again : Bool} {W W' : World} {args : Array Value} {ds gs : List (DataW H)} {before : List MemPlace} {tb : TypeId} (hl : laidOutB P = true)
    (hr : f.params.toList.all (fun t => P.readableRec t && decide (t < P.types.size)) = true) (hres : f.resultTypes = #[tb]) (htb : P.underlying tb = some .bool) (hvars : s.vars = [])
    (hW : DataW.Whole enc P f.params.toList s.vars false W args.toList ds gs before) (hfn : s.fn H (ds ++ gs) = { results := [.lit (.bool true)], args := ds }) (hb : Below W.heap.size W W') :
    s.post enc P f false true false again W args (.bool true) W' := by
  have hW0 := hW
  have hlt := hW.lt
  obtain ⟨p, q, hA, hV, rfl, hfz, hnd⟩ := hW
  rw [hvars] at hV
  obtain ⟨rfl, rfl⟩ := trodVars_none hV
  have hargs : ∀ sp : Nat → Bool, (∀ x ∈ p ++ [], sp x.block = true) → DataW.TrodAll enc P W' 0 sp true f.params.toList args.toList (s.fn H (ds ++ [])).args p := by
    intro sp hsp
    rw [hfn]
    exact trodAll_below hl hb hr hA (fun x hx => hlt x (by simp [hx])) (fun x hx => hsp x (by simp [hx]))
  have hv : ∀ sp : Nat → Bool, DataW.TrodVars enc P W' sp s.vars (s.fn H (ds ++ [])).vars [] := by
    intro sp; rw [hfn, hvars]; rfl
  have hrs : ∀ (b : Nat) (sp : Nat → Bool) (hd : Bool), DataW.TrodAll enc P W' b sp hd f.resultTypes.toList ((Value.bool true).resultList f.resultTypes.size) (s.fn H (ds ++ [])).results [] := by
    intro b sp hd
    rw [hfn, hres]
    exact trodAll_cons_mk (shut_bool htb _) trodAll_mk0
  refine ⟨ds, [], p ++ [], [], p, [], hW0, hrs _ _ _, hargs _ (fun x hx => by simpa using hlt x hx), hv _, World.keptBut_mono (fun p hp => ⟨hp, ?_⟩) (hb.frame (· ∈ p ++ [])), fun _ => ?_⟩
  · exact Or.inr (Or.inl (by simpa using hp))
  · refine ⟨ok_one hres rfl (okWide_bool_mk htb _), _, _, ([] ++ p) ++ [], ⟨[] ++ p, [], trodAll_append (hargs _ (fun _ _ => rfl)) (hrs _ _ _), hv _, rfl, ?_, fun h => by cases h⟩, ?_⟩
    · intro b off hp
      rw [hb.frozen (p := ⟨b, off, none⟩) (hlt (.cell b off) (by simpa using hp))]
      exact hfz b off (by simpa using hp)
    · intro x hx _
      simpa using hx

/-! the arguments -/
theorem open_str {r : Reach} {b0 : Nat} {W : World} {t : TypeId} {v : Value} {d : DataW H} {ps : List MemPlace} (ht : P.underlying t = some .string) (hval : Value.okWide P W r b0 t v)
    (hd : DataW.Trod enc P W 0 (fun _ => true) true t v d ps) : ∃ s : List UInt8, s.length ≤ maxLen ∧ RepA (GW W) (.d (.str s)) v := by
  obtain ⟨s, rfl, _, _, h⟩ := Go.ChangeMaps.open_string ht hval hd
  obtain ⟨⟨l⟩⟩ := s
  exact ⟨l, by simpa [ByteArray.size] using h, .d (.str l)⟩

theorem open_num {r : Reach} {b0 : Nat} {W : World} {t : TypeId} {k : IntKind} {v : Value} {d : DataW H} {ps : List MemPlace} (ht : P.underlying t = some (.int k)) (hval : Value.okWide P W r b0 t v)
    (hd : DataW.Trod enc P W 0 (fun _ => true) true t v d ps) : ∃ n : Int, (Lit.int k n).wf = true ∧ RepA (GW W) (.d (.int k n)) v := by
  obtain ⟨a0, rfl, rfl, rfl, w0⟩ := open_int ht hval hd
  exact ⟨a0, w0, .d (.int k a0)⟩

theorem open_flag {r : Reach} {b0 : Nat} {W : World} {t : TypeId} {v : Value} {d : DataW H} {ps : List MemPlace} (ht : P.underlying t = some .bool) (hval : Value.okWide P W r b0 t v)
    (hd : DataW.Trod enc P W 0 (fun _ => true) true t v d ps) : ∃ b : Bool, RepA (GW W) (.d (.bool b)) v := by
  obtain ⟨b, rfl, rfl, rfl⟩ := open_bool ht hval hd
  exact ⟨b, .d (.bool b)⟩

/-- A list of numbers as abstract data. -/
def numsD (k : IntKind) (zs : List Int) : List (List Dat) := zs.map fun n => [.int k n]

theorem RepD_nums {W : World} {k : IntKind} {a : Addr} {len cap : Nat} {zs : List Int} (hs : a.spot = none) (hlc : len ≤ cap) (hl : len ≤ zs.length) (hcell : ∀ i, i < zs.length → W.cell? (a.add i) = some (.int k (zs.getD i 0))) :
    RepD (GW W).imm (.sl 1 (numsD k (zs.take len))) (.slice (some a) len cap) := by
  have hz : (numsD k (zs.take len)).length = len := by simp [numsD]; omega
  have h := RepD.sl (m := (GW W).imm) 1 (numsD k (zs.take len)) a cap (fun j => .int k (zs.getD j 0)) hs (by omega) (fun e he => ?_) (fun i e j d he hd => ?_) (fun i e j d he hd => ?_)
  · rw [hz] at h; exact h
  · simp only [numsD, List.mem_map] at he
    obtain ⟨n, _, rfl⟩ := he; rfl
  · have hi : i < len := by rw [← hz]; exact (List.getElem?_eq_some_iff.1 he).1
    simp only [numsD, List.getElem?_map, Option.map_eq_some_iff] at he
    obtain ⟨n, hn, rfl⟩ := he
    cases j with
    | zero => simpa [GW] using hcell i (by omega)
    | succ j => simp at hd
  · have hi : i < len := by rw [← hz]; exact (List.getElem?_eq_some_iff.1 he).1
    simp only [numsD, List.getElem?_map, Option.map_eq_some_iff] at he
    obtain ⟨n, hn, rfl⟩ := he
    cases j with
    | zero =>
      simp only [List.getElem?_cons_zero, Option.some.injEq] at hd
      subst hd
      rw [List.getElem?_take] at hn
      simp only [hi, if_true] at hn
      have : zs.getD (i * 1 + 0) 0 = n := by simp [List.getD, hn]
      simp only [this]
      exact .int k n
    | succ j => simp at hd

theorem open_nums {r : Reach} {b0 : Nat} {W : World} {t e : TypeId} {k : IntKind} {v : Value} {d : DataW H} {ps : List MemPlace} (ht : P.underlying t = some (.slice e)) (he : P.underlying e = some (.int k))
    (hc : P.cellsOf e = 1) (hval : Value.okWide P W r b0 t v)
    (hd : DataW.Trod enc P W 0 (fun _ => true) true t v d ps) : ∃ zs : List Int, (∀ n, n ∈ zs → (Lit.int k n).wf = true) ∧ zs.length ≤ maxLen ∧ RepA (GW W) (.d (.sl 1 (numsD k zs))) v := by
  obtain ⟨a0, len0, cap0, rfl⟩ := okWide_slice ht hval
  obtain ⟨fuel, hf⟩ := hd
  rcases open_ints ht he hc hf with ⟨h1, h2⟩ | ⟨a, len, cap, zs, h1, h2, h3, h4, h5, h6, h7, h8⟩
  · simp [Value.cells] at h1
    obtain ⟨rfl, rfl, rfl⟩ := h1
    exact ⟨[], by simp, by simp, .d (.nil 1)⟩
  · simp [Value.cells] at h1
    obtain ⟨rfl, rfl, rfl⟩ := h1
    simp only [if_true] at h5
    have hsp : a.spot = none := by
      simp only [Value.okWide, ht, Cell.okWide, Cell.ok] at hval
      exact hval.2.2.2.1
    exact ⟨zs.take len0, fun n hn => h8 n (List.mem_of_mem_take hn), by simp; omega, .d (RepD_nums hsp h3 (by omega) h7)⟩
end
end Tdoc
/- The parser of package policy: blanks and words. -/
set_option linter.unusedVariables false
set_option linter.unusedSimpArgs false
namespace Tdoc
open Go Go.Proofs

/-- The parser's state: where it is, the present word and where it began, whether it has met an error. -/
structure PS where
  a : Nat
  nt : List UInt8
  na : Nat
  wr : Bool

def psr (text : List UInt8) : PS → List AV
  | ⟨a, nt, na, wr⟩ => [.d (.str text), .d (.int .i64 a), .d (.str nt), .d (.int .i64 na), .d (.bool wr)]

/-- How many bytes are skipped. -/
def skipS : Bool → List UInt8 → Nat
  | _, [] => 0
  | false, c :: r => if c = 32 ∨ c = 10 then skipS false r + 1 else if c = 35 then skipS true r + 1 else 0
  | true, c :: r => if c = 10 then skipS false r + 1 else skipS true r + 1

theorem skipS_le : ∀ (b : Bool) (l : List UInt8), skipS b l ≤ l.length
  | _, [] => by simp [skipS]
  | false, c :: r => by
    have h1 := skipS_le false r; have h2 := skipS_le true r
    simp only [skipS, List.length_cons]; split
    · omega
    · split <;> omega
  | true, c :: r => by
    have h1 := skipS_le false r; have h2 := skipS_le true r
    simp only [skipS, List.length_cons]; split <;> omega

set_option maxRecDepth 100000 in
theorem skip_spec (text : List UInt8) (s : PS) (ha : s.a ≤ text.length) (hl : text.length ≤ 1000000) :
    Spec Try.prog 34 [.ptr 0 0] [.row (psr text s)] (fun r h' => r = .tup [] ∧ h' = [.row (psr text { s with a := s.a + skipS false (text.drop s.a) })]) := by
  obtain ⟨a, nt, na, wr⟩ := s
  simp only at ha
  refine Spec_of_body hT Try.func34 rfl rfl (rs := []) rfl rfl ?_
  intro E hE
  refine AW_block ?_
  refine AW_loopL (ι := Nat) (fun _ => [(0, .ptr 0 0)]) (fun b => [.row (psr text ⟨b, nt, na, wr⟩)]) (fun b => b ≤ text.length ∧ b + skipS false (text.drop b) = a + skipS false (text.drop a)) (fun b => text.length - b) a ⟨ha, rfl⟩ ⟨.refl _, trivial⟩ (HLe.refl _) ?_
  intro b ⟨hb, hsk⟩
  repeat (first | refine wk hT rfl rfl ?_ | refine wd hT rfl rfl rfl ?_ | refine wz hT rfl ?_ | refine AWd_nil ?_ | refine AWk_nil ?_ | refine wh hT rfl rfl rfl rfl ?_ | refine wg hT rfl rfl rfl rfl rfl ?_ | refine AW_seq ?_ | refine AW_region ?_ | refine wx mixed ?_ | refine AW_block ?_ | refine AW_skip ?_ | refine AW_exit ?_ | refine AW_ret ?_)
  refine AW_condL rfl (fun h1 => ?_) (fun h1 => ?_)
  · have hlt : b < text.length := by simpa using h1
    have hd : text.drop b = text[b] :: text.drop (b + 1) := by simp
    have hat := strAt_get hlt
    rw [hd] at hsk
    have hwr : IntKind.i64.wrap ((b : Int) + 1) = ((b + 1 : Nat) : Int) := by rw [wrap_id (by omega)]; simp
    have one : (text[b] = 32 ∨ text[b] = 10) → b + 1 + skipS false (text.drop (b + 1)) = a + skipS false (text.drop a) := by
      intro hc; rw [← hsk, skipS, if_pos hc]; omega
    have two : text[b] = 35 → b + 1 + skipS true (text.drop (b + 1)) = a + skipS false (text.drop a) := by
      intro hc; rw [← hsk, skipS, if_neg (by rw [hc]; decide), if_pos hc]; omega
    repeat (first | refine wk hT rfl rfl ?_ | refine wd hT rfl rfl rfl ?_ | refine wz hT rfl ?_ | refine AWd_nil ?_ | refine AWk_nil ?_ | refine wh hT rfl rfl rfl rfl ?_ | refine wg hT rfl rfl rfl rfl rfl ?_ | refine AW_seq ?_ | refine AW_region ?_ | refine wx mixed ?_ | refine AW_block ?_ | refine AW_skip ?_ | refine AW_exit ?_ | refine AW_ret ?_)
    refine AW_condL rfl (fun h2 => ?_) (fun h2 => ?_)
    · have hc : text[b] = 32 := by
        rw [hat] at h2; exact beq_byte (d := 32) rfl h2
      repeat (first | refine wk hT rfl rfl ?_ | refine wd hT rfl rfl rfl ?_ | refine wz hT rfl ?_ | refine AWd_nil ?_ | refine AWk_nil ?_ | refine wh hT rfl rfl rfl rfl ?_ | refine wg hT rfl rfl rfl rfl rfl ?_ | refine AW_seq ?_ | refine AW_region ?_ | refine wx mixed ?_ | refine AW_block ?_ | refine AW_skip ?_ | refine AW_exit ?_ | refine AW_ret ?_)
      refine AW_condL rfl (fun _ => ?_) (fun hf => by rw [h2] at hf; cases hf)
      repeat (first | refine wk hT rfl rfl ?_ | refine wd hT rfl rfl rfl ?_ | refine wz hT rfl ?_ | refine AWd_nil ?_ | refine AWk_nil ?_ | refine wh hT rfl rfl rfl rfl ?_ | refine wg hT rfl rfl rfl rfl rfl ?_ | refine AW_seq ?_ | refine AW_region ?_ | refine wx mixed ?_ | refine AW_block ?_ | refine AW_skip ?_ | refine AW_exit ?_ | refine AW_ret ?_)
      refine ⟨b + 1, ⟨by omega, one (.inl hc)⟩, by omega, ⟨.refl _, trivial⟩, ?_⟩
      exact ⟨⟨.refl _, AV.le.eq (by show AV.d (.int .i64 (IntKind.i64.wrap ((b : Int) + 1))) = _; rw [hwr]), .refl _, .refl _, .refl _, trivial⟩, trivial⟩
    · have hn32 : ¬ text[b] = 32 := by
        intro hc; rw [hat, hc] at h2; simp at h2
      repeat (first | refine wk hT rfl rfl ?_ | refine wd hT rfl rfl rfl ?_ | refine wz hT rfl ?_ | refine AWd_nil ?_ | refine AWk_nil ?_ | refine wh hT rfl rfl rfl rfl ?_ | refine wg hT rfl rfl rfl rfl rfl ?_ | refine AW_seq ?_ | refine AW_region ?_ | refine wx mixed ?_ | refine AW_block ?_ | refine AW_skip ?_ | refine AW_exit ?_ | refine AW_ret ?_)
      refine AW_condL rfl (fun h3 => ?_) (fun h3 => ?_)
      · have hc : text[b] = 10 := by
          rw [hat] at h3; exact beq_byte (d := 10) rfl h3
        repeat (first | refine wk hT rfl rfl ?_ | refine wd hT rfl rfl rfl ?_ | refine wz hT rfl ?_ | refine AWd_nil ?_ | refine AWk_nil ?_ | refine wh hT rfl rfl rfl rfl ?_ | refine wg hT rfl rfl rfl rfl rfl ?_ | refine AW_seq ?_ | refine AW_region ?_ | refine wx mixed ?_ | refine AW_block ?_ | refine AW_skip ?_ | refine AW_exit ?_ | refine AW_ret ?_)
        refine ⟨b + 1, ⟨by omega, one (.inr hc)⟩, by omega, ⟨.refl _, trivial⟩, ?_⟩
        exact ⟨⟨.refl _, AV.le.eq (by show AV.d (.int .i64 (IntKind.i64.wrap ((b : Int) + 1))) = _; rw [hwr]), .refl _, .refl _, .refl _, trivial⟩, trivial⟩
      · have hn10 : ¬ text[b] = 10 := by
          intro hc; rw [hat, hc] at h3; simp at h3
        repeat (first | refine wk hT rfl rfl ?_ | refine wd hT rfl rfl rfl ?_ | refine wz hT rfl ?_ | refine AWd_nil ?_ | refine AWk_nil ?_ | refine wh hT rfl rfl rfl rfl ?_ | refine wg hT rfl rfl rfl rfl rfl ?_ | refine AW_seq ?_ | refine AW_region ?_ | refine wx mixed ?_ | refine AW_block ?_ | refine AW_skip ?_ | refine AW_exit ?_ | refine AW_ret ?_)
        refine AW_condL rfl (fun h4 => ?_) (fun h4 => ?_)
        · have hc : text[b] = 35 := by
            rw [hat] at h4; exact beq_byte (d := 35) rfl h4
          repeat (first | refine wk hT rfl rfl ?_ | refine wd hT rfl rfl rfl ?_ | refine wz hT rfl ?_ | refine AWd_nil ?_ | refine AWk_nil ?_ | refine wh hT rfl rfl rfl rfl ?_ | refine wg hT rfl rfl rfl rfl rfl ?_ | refine AW_seq ?_ | refine AW_region ?_ | refine wx mixed ?_ | refine AW_block ?_ | refine AW_skip ?_ | refine AW_exit ?_ | refine AW_ret ?_)
          refine AW_loopL (ι := Nat) (fun _ => [(0, .ptr 0 0)]) (fun e => [.row (psr text ⟨e, nt, na, wr⟩)])
            (fun e => b ≤ e ∧ e ≤ text.length ∧ (e = b ∨ b < e ∧ e + skipS true (text.drop e) = a + skipS false (text.drop a))) (fun e => text.length - e) b ⟨by omega, by omega, .inl rfl⟩ ⟨.refl _, trivial⟩ (HLe.refl _) ?_
          intro e ⟨he1, he2, he3⟩
          repeat (first | refine wk hT rfl rfl ?_ | refine wd hT rfl rfl rfl ?_ | refine wz hT rfl ?_ | refine AWd_nil ?_ | refine AWk_nil ?_ | refine wh hT rfl rfl rfl rfl ?_ | refine wg hT rfl rfl rfl rfl rfl ?_ | refine AW_seq ?_ | refine AW_region ?_ | refine wx mixed ?_ | refine AW_block ?_ | refine AW_skip ?_ | refine AW_exit ?_ | refine AW_ret ?_)
          refine AW_condL rfl (fun h5 => ?_) (fun h5 => ?_)
          · have h5' : e < text.length ∧ ¬ strAt text e = 10 := by simpa using h5
            have hlt2 := h5'.1
            have hne : ¬ text[e] = 10 := by
              intro hc; apply h5'.2; rw [strAt_get hlt2, hc]; rfl
            have hd2 : text.drop e = text[e] :: text.drop (e + 1) := by simp
            have hwr2 : IntKind.i64.wrap ((e : Int) + 1) = ((e + 1 : Nat) : Int) := by rw [wrap_id (by omega)]; simp
            have hnext : e + 1 + skipS true (text.drop (e + 1)) = a + skipS false (text.drop a) := by
              rcases he3 with rfl | ⟨_, he4⟩
              · exact two hc
              · rw [hd2, skipS, if_neg hne] at he4; omega
            repeat (first | refine wk hT rfl rfl ?_ | refine wd hT rfl rfl rfl ?_ | refine wz hT rfl ?_ | refine AWd_nil ?_ | refine AWk_nil ?_ | refine wh hT rfl rfl rfl rfl ?_ | refine wg hT rfl rfl rfl rfl rfl ?_ | refine AW_seq ?_ | refine AW_region ?_ | refine wx mixed ?_ | refine AW_block ?_ | refine AW_skip ?_ | refine AW_exit ?_ | refine AW_ret ?_)
            refine ⟨e + 1, ⟨by omega, by omega, .inr ⟨by omega, hnext⟩⟩, by omega, ⟨.refl _, trivial⟩, ?_⟩
            exact ⟨⟨.refl _, AV.le.eq (by show AV.d (.int .i64 (IntKind.i64.wrap ((e : Int) + 1))) = _; rw [hwr2]), .refl _, .refl _, .refl _, trivial⟩, trivial⟩
          · repeat (first | refine wk hT rfl rfl ?_ | refine wd hT rfl rfl rfl ?_ | refine wz hT rfl ?_ | refine AWd_nil ?_ | refine AWk_nil ?_ | refine wh hT rfl rfl rfl rfl ?_ | refine wg hT rfl rfl rfl rfl rfl ?_ | refine AW_seq ?_ | refine AW_region ?_ | refine wx mixed ?_ | refine AW_block ?_ | refine AW_skip ?_ | refine AW_exit ?_ | refine AW_ret ?_)
            have h5' : e < text.length → strAt text e = 10 := by
              intro hlt2; simpa [hlt2] using h5
            have hbe : b < e ∧ e + skipS true (text.drop e) = a + skipS false (text.drop a) := by
              rcases he3 with rfl | he4
              · have := h5' hlt; rw [hat, hc] at this; simp at this
              · exact he4
            have hsame : skipS false (text.drop e) = skipS true (text.drop e) := by
              by_cases hlt2 : e < text.length
              · have h6 := h5' hlt2
                have hc10 : text[e] = 10 := by rw [strAt_get hlt2] at h6; exact beq_byte (d := 10) rfl (by rw [h6]; rfl)
                have hd2 : text.drop e = text[e] :: text.drop (e + 1) := by simp
                rw [hd2, hc10]; rfl
              · rw [List.drop_eq_nil_of_le (by omega)]; rfl
            refine ⟨e, ⟨by omega, by rw [hsame]; exact hbe.2⟩, by omega, ⟨.refl _, trivial⟩, HLe.refl _⟩
        · have hn35 : ¬ text[b] = 35 := by
            intro hc; rw [hat, hc] at h4; simp at h4
          repeat (first | refine wk hT rfl rfl ?_ | refine wd hT rfl rfl rfl ?_ | refine wz hT rfl ?_ | refine AWd_nil ?_ | refine AWk_nil ?_ | refine wh hT rfl rfl rfl rfl ?_ | refine wg hT rfl rfl rfl rfl rfl ?_ | refine AW_seq ?_ | refine AW_region ?_ | refine wx mixed ?_ | refine AW_block ?_ | refine AW_skip ?_ | refine AW_exit ?_ | refine AW_ret ?_)
          refine ⟨_, _, _, rfl, fun _ _ h => h, rfl, rfl, rfl, rfl, rfl, ?_⟩
          rw [skipS, if_neg (by rintro (h | h) <;> contradiction), if_neg hn35] at hsk
          simp only [List.take, List.length]
          rw [← hsk]; rfl
  · repeat (first | refine wk hT rfl rfl ?_ | refine wd hT rfl rfl rfl ?_ | refine wz hT rfl ?_ | refine AWd_nil ?_ | refine AWk_nil ?_ | refine wh hT rfl rfl rfl rfl ?_ | refine wg hT rfl rfl rfl rfl rfl ?_ | refine AW_seq ?_ | refine AW_region ?_ | refine wx mixed ?_ | refine AW_block ?_ | refine AW_skip ?_ | refine AW_exit ?_ | refine AW_ret ?_)
    have : b = text.length := by simp at h1; omega
    refine ⟨_, _, _, rfl, fun _ _ h => h, rfl, rfl, rfl, rfl, rfl, ?_⟩
    simp [this, skipS] at hsk
    simp only [List.take, List.length]
    rw [← hsk, this]
end Tdoc
/- The parser of package policy: the next word. -/
set_option linter.unusedVariables false
set_option linter.unusedSimpArgs false
namespace Tdoc
open Go Go.Proofs

def isLow (c : UInt8) : Bool := decide (97 ≤ c.toNat) && decide (c.toNat ≤ 122)
/-- How many letters a text begins with. -/
def lets : List UInt8 → Nat
  | [] => 0
  | c :: r => if isLow c then lets r + 1 else 0

theorem lets_le : ∀ (l : List UInt8), lets l ≤ l.length
  | [] => by simp [lets]
  | c :: r => by have := lets_le r; simp only [lets, List.length_cons]; split <;> omega

/-- The word that begins here: its length. -/
def wlen (l : List UInt8) : Nat := if lets l = 0 ∧ l ≠ [] then 1 else lets l

theorem wlen_le (l : List UInt8) : wlen l ≤ l.length := by
  unfold wlen
  split
  · rename_i h; have := List.length_pos_iff.2 h.2; omega
  · exact lets_le l

def nextP (text : List UInt8) (s : PS) : PS :=
  ⟨s.a + skipS false (text.drop s.a) + wlen (text.drop (s.a + skipS false (text.drop s.a))), (text.drop (s.a + skipS false (text.drop s.a))).take (wlen (text.drop (s.a + skipS false (text.drop s.a)))), s.a + skipS false (text.drop s.a), s.wr⟩

theorem nextP_le (text : List UInt8) (s : PS) (h : s.a ≤ text.length) : (nextP text s).a ≤ text.length := by
  have h1 := skipS_le false (text.drop s.a)
  have h2 := wlen_le (text.drop (s.a + skipS false (text.drop s.a)))
  simp only [List.length_drop] at h1 h2
  simp only [nextP]; omega

set_option maxRecDepth 100000 in
theorem next_spec (text : List UInt8) (s : PS) (ha : s.a ≤ text.length) (hl : text.length ≤ 1000000) :
    Spec Try.prog 21 [.ptr 0 0] [.row (psr text s)] (fun r h' => r = .tup [] ∧ h' = [.row (psr text (nextP text s))]) := by
  have hsk := skipS_le false (text.drop s.a)
  simp only [List.length_drop] at hsk
  have hskip := skip_spec text s ha hl
  have hnx : nextP text s = ⟨s.a + skipS false (text.drop s.a) + wlen (text.drop (s.a + skipS false (text.drop s.a))), (text.drop (s.a + skipS false (text.drop s.a))).take (wlen (text.drop (s.a + skipS false (text.drop s.a)))), s.a + skipS false (text.drop s.a), s.wr⟩ := rfl
  rw [hnx]
  generalize hb : s.a + skipS false (text.drop s.a) = b at hskip ⊢
  obtain ⟨a, nt, na, wr⟩ := s
  simp only at ha hb hsk
  have hbl : b ≤ text.length := by omega
  refine Spec_of_body hT Try.func21 rfl rfl (rs := []) rfl rfl ?_
  intro E hE
  repeat (first | refine wk hT rfl rfl ?_ | refine wd hT rfl rfl rfl ?_ | refine wz hT rfl ?_ | refine AWd_nil ?_ | refine AWk_nil ?_ | refine wh hT rfl rfl rfl rfl ?_ | refine wg hT rfl rfl rfl rfl rfl ?_ | refine AW_seq ?_ | refine AW_region ?_ | refine wx mixed ?_ | refine AW_block ?_ | refine AW_skip ?_ | refine AW_exit ?_ | refine AW_ret ?_)
  refine AWk_op (callS rfl rfl hskip [0] (by decide) rfl rfl rfl rfl rfl rfl) rfl ?_
  repeat (first | refine wk hT rfl rfl ?_ | refine wd hT rfl rfl rfl ?_ | refine wz hT rfl ?_ | refine AWd_nil ?_ | refine AWk_nil ?_ | refine wh hT rfl rfl rfl rfl ?_ | refine wg hT rfl rfl rfl rfl rfl ?_ | refine AW_seq ?_ | refine AW_region ?_ | refine wx mixed ?_ | refine AW_block ?_ | refine AW_skip ?_ | refine AW_exit ?_ | refine AW_ret ?_)
  refine AW_loopL (ι := Nat) (fun _ => [(0, .ptr 0 0), (2, .d (.int .i64 b))]) (fun e => [.row (psr text ⟨e, nt, na, wr⟩)]) (fun e => b ≤ e ∧ e ≤ text.length ∧ e + lets (text.drop e) = b + lets (text.drop b)) (fun e => text.length - e) b ⟨by omega, by omega, rfl⟩ ⟨.refl _, .refl _, trivial⟩ (HLe.refl _) ?_
  intro e ⟨he1, he2, he3⟩
  repeat (first | refine wk hT rfl rfl ?_ | refine wd hT rfl rfl rfl ?_ | refine wz hT rfl ?_ | refine AWd_nil ?_ | refine AWk_nil ?_ | refine wh hT rfl rfl rfl rfl ?_ | refine wg hT rfl rfl rfl rfl rfl ?_ | refine AW_seq ?_ | refine AW_region ?_ | refine wx mixed ?_ | refine AW_block ?_ | refine AW_skip ?_ | refine AW_exit ?_ | refine AW_ret ?_)
  refine AW_condL rfl (fun h1 => ?_) (fun h1 => ?_)
  · have h1' : e < text.length ∧ 97 ≤ strAt text e ∧ strAt text e ≤ 122 := by simpa [and_assoc] using h1
    have hlt := h1'.1
    have hd2 : text.drop e = text[e] :: text.drop (e + 1) := by simp
    have hwr2 : IntKind.i64.wrap ((e : Int) + 1) = ((e + 1 : Nat) : Int) := by rw [wrap_id (by omega)]; simp
    have hlow : isLow text[e] = true := by rw [strAt_get hlt] at h1'; simp [isLow]; omega
    rw [hd2, lets, if_pos hlow] at he3
    repeat (first | refine wk hT rfl rfl ?_ | refine wd hT rfl rfl rfl ?_ | refine wz hT rfl ?_ | refine AWd_nil ?_ | refine AWk_nil ?_ | refine wh hT rfl rfl rfl rfl ?_ | refine wg hT rfl rfl rfl rfl rfl ?_ | refine AW_seq ?_ | refine AW_region ?_ | refine wx mixed ?_ | refine AW_block ?_ | refine AW_skip ?_ | refine AW_exit ?_ | refine AW_ret ?_)
    refine ⟨e + 1, ⟨by omega, by omega, by omega⟩, by omega, ⟨.refl _, .refl _, trivial⟩, ?_⟩
    exact ⟨⟨.refl _, AV.le.eq (by show AV.d (.int .i64 (IntKind.i64.wrap ((e : Int) + 1))) = _; rw [hwr2]), .refl _, .refl _, .refl _, trivial⟩, trivial⟩
  · have hend : lets (text.drop e) = 0 := by
      by_cases hlt : e < text.length
      · have hd2 : text.drop e = text[e] :: text.drop (e + 1) := by simp
        have : ¬ isLow text[e] = true := by
          intro hh
          rw [strAt_get hlt] at h1
          simp [isLow] at hh
          simp [hlt, hh] at h1
          omega
        rw [hd2, lets, if_neg this]
      · rw [List.drop_eq_nil_of_le (by omega)]; rfl
    have he : e = b + lets (text.drop b) := by omega
    have hcut : ∀ w : Nat, cutL text (b : Int) ((b + w : Nat) : Int) = (text.drop b).take w := by
      intro w; unfold cutL; congr 1; omega
    repeat (first | refine AW_exit ?_ | refine AW_skip ?_)
    refine AW_seq_cut (ι := Unit) (fun _ => [(0, .ptr 0 0), (2, .d (.int .i64 b))]) (fun _ => [.row (psr text ⟨b + wlen (text.drop b), nt, na, wr⟩)]) (fun _ => True) ?_ ?_
    · repeat (first | refine wk hT rfl rfl ?_ | refine wd hT rfl rfl rfl ?_ | refine wz hT rfl ?_ | refine AWd_nil ?_ | refine AWk_nil ?_ | refine wh hT rfl rfl rfl rfl ?_ | refine wg hT rfl rfl rfl rfl rfl ?_ | refine AW_seq ?_ | refine AW_region ?_ | refine wx mixed ?_ | refine AW_block ?_ | refine AW_skip ?_ | refine AW_exit ?_ | refine AW_ret ?_)
      refine AW_condL rfl (fun h2 => ?_) (fun h2 => ?_)
      · have h2' : (e : Int) = b ∧ e < text.length := by simpa using h2
        have hw : wlen (text.drop b) = 1 := by
          unfold wlen; rw [if_pos ⟨by omega, by intro hn; rw [List.drop_eq_nil_iff] at hn; omega⟩]
        have hwr2 : IntKind.i64.wrap ((e : Int) + 1) = ((b + wlen (text.drop b) : Nat) : Int) := by rw [wrap_id (by omega), hw]; omega
        repeat (first | refine wk hT rfl rfl ?_ | refine wd hT rfl rfl rfl ?_ | refine wz hT rfl ?_ | refine AWd_nil ?_ | refine AWk_nil ?_ | refine wh hT rfl rfl rfl rfl ?_ | refine wg hT rfl rfl rfl rfl rfl ?_ | refine AW_seq ?_ | refine AW_region ?_ | refine wx mixed ?_ | refine AW_block ?_ | refine AW_skip ?_ | refine AW_exit ?_ | refine AW_ret ?_)
        refine ⟨(), trivial, ⟨.refl _, .refl _, trivial⟩, ?_⟩
        exact ⟨⟨.refl _, AV.le.eq (by show AV.d (.int .i64 (IntKind.i64.wrap ((e : Int) + 1))) = _; rw [hwr2]), .refl _, .refl _, .refl _, trivial⟩, trivial⟩
      · have h2' : (e : Int) = b → text.length ≤ b := by intro hh; simpa [hh] using h2
        have hw : e = b + wlen (text.drop b) := by
          unfold wlen; rw [if_neg (by rintro ⟨h3, h4⟩; apply h4; rw [List.drop_eq_nil_iff]; have := h2' (by omega); omega)]; exact he
        subst hw
        repeat (first | refine wk hT rfl rfl ?_ | refine wd hT rfl rfl rfl ?_ | refine wz hT rfl ?_ | refine AWd_nil ?_ | refine AWk_nil ?_ | refine wh hT rfl rfl rfl rfl ?_ | refine wg hT rfl rfl rfl rfl rfl ?_ | refine AW_seq ?_ | refine AW_region ?_ | refine wx mixed ?_ | refine AW_block ?_ | refine AW_skip ?_ | refine AW_exit ?_ | refine AW_ret ?_)
        exact ⟨(), trivial, ⟨.refl _, .refl _, trivial⟩, HLe.refl _⟩
    · intro _ _
      have hwl := wlen_le (text.drop b)
      simp only [List.length_drop] at hwl
      refine AW_drawG (fun i => bif Nat.beq i 4 || Nat.beq i 9 || Nat.beq i 15 then [0] else []) (fun i => bif Nat.beq i 15 then [0] else []) mixed (by kernel_rfl) ?_
      repeat (first | refine AWg_load hT rfl rfl rfl rfl (by first | exact List.mem_cons_self | exact sm) rfl ?_ | refine AWg_pure hT (fun _ => rfl) rfl rfl (by first | exact True.intro | omega | exact sd) ?_ | refine AWg_store hT rfl rfl rfl (by first | exact List.mem_cons_self | exact sm) rfl ?_ | refine AWd_nil ?_)
      refine ⟨_, _, _, rfl, fun _ _ h => h, rfl, rfl, rfl, rfl, rfl, ?_⟩
      simp only [List.take, List.length]
      rw [← hcut]; rfl
end Tdoc
/- The parser of package policy: names and their numbers, words that are passed over. -/
set_option linter.unusedVariables false
set_option linter.unusedSimpArgs false
namespace Tdoc
open Go Go.Proofs

def strsAV (l : List (List UInt8)) : List (List Dat) := l.map fun s => [.str s]

/-- The index of a text in a list, from 0 on, or -1. -/
def sIdx (l : List (List UInt8)) (s : List UInt8) : Int := match l.findIdx? (fun x => x == s) with
  | some i => i
  | none => -1

theorem sIdx_bound (l : List (List UInt8)) (s : List UInt8) : -1 ≤ sIdx l s ∧ sIdx l s < l.length := by
  unfold sIdx
  split
  · rename_i i h
    have := (List.findIdx?_eq_some_iff_getElem.1 h).1
    omega
  · omega

theorem sIdx_at {l : List (List UInt8)} {s : List UInt8} {k : Nat} (hk : k < l.length) (h : l[k] = s) (hb : ∀ j, (hj : j < k) → l[j]'(by omega) ≠ s) : sIdx l s = k := by
  unfold sIdx
  have : l.findIdx? (fun x => x == s) = some k := by
    rw [List.findIdx?_eq_some_iff_getElem]
    exact ⟨hk, by simp [h], fun j hj => by simpa using hb j hj⟩
  rw [this]

theorem sIdx_none {l : List (List UInt8)} {s : List UInt8} (hb : ∀ j, (hj : j < l.length) → l[j] ≠ s) : sIdx l s = -1 := by
  unfold sIdx
  have : l.findIdx? (fun x => x == s) = none := by
    rw [List.findIdx?_eq_none_iff]
    intro x hx
    obtain ⟨j, hj, rfl⟩ := List.mem_iff_getElem.1 hx
    simpa using hb j hj
  rw [this]

set_option maxRecDepth 100000 in
theorem Index_spec (l : List (List UInt8)) (s : List UInt8) (hl : l.length ≤ 1000000) :
    Spec Try.prog 54 [.d (.sl 1 (strsAV l)), .d (.str s)] [] (fun r h' => r = .d (.int .i64 (sIdx l s)) ∧ h' = []) := by
  refine Spec_of_body hT Try.func54 rfl rfl rfl rfl ?_
  intro E hE
  have hlen : (strsAV l).length = l.length := by simp [strsAV]
  repeat (first | refine wk hT rfl rfl ?_ | refine wd hT rfl rfl rfl ?_ | refine wz hT rfl ?_ | refine AWd_nil ?_ | refine AWk_nil ?_ | refine wh hT rfl rfl rfl rfl ?_ | refine wg hT rfl rfl rfl rfl rfl ?_ | refine AW_seq ?_ | refine AW_region ?_ | refine wx mixed ?_ | refine AW_block ?_ | refine AW_skip ?_ | refine AW_exit ?_ | refine AW_ret ?_)
  refine AW_loopL (ι := Nat) (fun k => [(0, .d (.sl 1 (strsAV l))), (1, .d (.str s)), (7, .d (.int .i64 (strsAV l).length)), (8, .d (.int .i64 k))]) (fun _ => []) (fun k => k ≤ l.length ∧ ∀ j, (hj : j < k) → (hj2 : j < l.length) → l[j] ≠ s) (fun k => l.length - k) 0
    ⟨by omega, fun j hj => by omega⟩ ⟨.refl _, .refl _, .refl _, .refl _, trivial⟩ (HLe.refl _) ?_
  intro k ⟨hk, hb⟩
  repeat (first | refine wk hT rfl rfl ?_ | refine wd hT rfl rfl rfl ?_ | refine wz hT rfl ?_ | refine AWd_nil ?_ | refine AWk_nil ?_ | refine wh hT rfl rfl rfl rfl ?_ | refine wg hT rfl rfl rfl rfl rfl ?_ | refine AW_seq ?_ | refine AW_region ?_ | refine wx mixed ?_ | refine AW_block ?_ | refine AW_skip ?_ | refine AW_exit ?_ | refine AW_ret ?_)
  refine AW_condL rfl (fun h1 => ?_) (fun h1 => ?_)
  · have hlt : k < l.length := by rw [hlen] at h1; simpa using h1
    have hel : (strsAV l)[((k : Int)).toNat]? = some [.str l[k]] := by simp [strsAV, hlt]
    repeat (first | refine wk hT rfl rfl ?_ | refine wd hT rfl rfl rfl ?_ | refine wz hT rfl ?_ | refine AWd_nil ?_ | refine AWk_nil ?_ | refine wh hT rfl rfl rfl rfl ?_ | refine wg hT rfl rfl rfl rfl rfl ?_ | refine AW_seq ?_ | refine AW_region ?_ | refine wx mixed ?_ | refine AW_block ?_ | refine AW_skip ?_ | refine AW_exit ?_ | refine AW_ret ?_)
    refine AWk_op (OpS_of_pure (indexAddr_ok hT rfl rfl rfl rfl (by omega) hel)) rfl ?_
    repeat (first | refine wk hT rfl rfl ?_ | refine wd hT rfl rfl rfl ?_ | refine wz hT rfl ?_ | refine AWd_nil ?_ | refine AWk_nil ?_ | refine wh hT rfl rfl rfl rfl ?_ | refine wg hT rfl rfl rfl rfl rfl ?_ | refine AW_seq ?_ | refine AW_region ?_ | refine wx mixed ?_ | refine AW_block ?_ | refine AW_skip ?_ | refine AW_exit ?_ | refine AW_ret ?_)
    refine AW_condL rfl (fun h2 => ?_) (fun h2 => ?_)
    · have h2' : s = l[k] := by simpa using h2
      repeat (first | refine wk hT rfl rfl ?_ | refine wd hT rfl rfl rfl ?_ | refine wz hT rfl ?_ | refine AWd_nil ?_ | refine AWk_nil ?_ | refine wh hT rfl rfl rfl rfl ?_ | refine wg hT rfl rfl rfl rfl rfl ?_ | refine AW_seq ?_ | refine AW_region ?_ | refine wx mixed ?_ | refine AW_block ?_ | refine AW_skip ?_ | refine AW_exit ?_ | refine AW_ret ?_)
      refine ret_exact rfl (.refl _) rfl rfl rfl rfl ⟨?_, rfl⟩
      show AV.d (.int .i64 (k : Int)) = _
      rw [sIdx_at hlt h2'.symm (fun j hj => hb j hj (by omega))]
    · have h2' : ¬ s = l[k] := by simpa using h2
      repeat (first | refine wk hT rfl rfl ?_ | refine wd hT rfl rfl rfl ?_ | refine wz hT rfl ?_ | refine AWd_nil ?_ | refine AWk_nil ?_ | refine wh hT rfl rfl rfl rfl ?_ | refine wg hT rfl rfl rfl rfl rfl ?_ | refine AW_seq ?_ | refine AW_region ?_ | refine wx mixed ?_ | refine AW_block ?_ | refine AW_skip ?_ | refine AW_exit ?_ | refine AW_ret ?_)
      refine ⟨k + 1, ⟨by omega, fun j hj hj2 => ?_⟩, by omega, ⟨.refl _, .refl _, .refl _, AV.le.eq ?_, trivial⟩, HLe.refl _⟩
      · by_cases hjk : j = k
        · subst hjk; exact fun hh => h2' hh.symm
        · exact hb j (by omega) hj2
      · show AV.d (.int .i64 (IntKind.i64.wrap ((k : Int) + 1))) = _
        rw [wrap_id (by omega)]; rfl
  · have hge : k = l.length := by rw [hlen] at h1; simp at h1; omega
    repeat (first | refine wk hT rfl rfl ?_ | refine wd hT rfl rfl rfl ?_ | refine wz hT rfl ?_ | refine AWd_nil ?_ | refine AWk_nil ?_ | refine wh hT rfl rfl rfl rfl ?_ | refine wg hT rfl rfl rfl rfl rfl ?_ | refine AW_seq ?_ | refine AW_region ?_ | refine wx mixed ?_ | refine AW_block ?_ | refine AW_skip ?_ | refine AW_exit ?_ | refine AW_ret ?_)
    refine ret_exact rfl (.refl _) rfl rfl rfl rfl ⟨?_, rfl⟩
    show AV.d (.int .i64 (-1)) = _
    rw [sIdx_none (fun j hj => hb j (by omega) hj)]

set_option maxRecDepth 100000 in
theorem number_spec (l : List (List UInt8)) (s : List UInt8) (hl : l.length ≤ 1000000) :
    Spec Try.prog 49 [.d (.sl 1 (strsAV l)), .d (.str s)] [] (fun r h' => r = .d (.int .i64 (sIdx l s + 1)) ∧ h' = []) := by
  refine Spec_of_body hT Try.func49 rfl rfl rfl rfl ?_
  intro E hE
  have hb := sIdx_bound l s
  repeat (first | refine wk hT rfl rfl ?_ | refine wd hT rfl rfl rfl ?_ | refine wz hT rfl ?_ | refine AWd_nil ?_ | refine AWk_nil ?_ | refine wh hT rfl rfl rfl rfl ?_ | refine wg hT rfl rfl rfl rfl rfl ?_ | refine AW_seq ?_ | refine AW_region ?_ | refine wx mixed ?_ | refine AW_block ?_ | refine AW_skip ?_ | refine AW_exit ?_ | refine AW_ret ?_)
  refine AWk_op (callS0 rfl rfl (Index_spec l s hl) rfl rfl rfl) rfl ?_
  repeat (first | refine wk hT rfl rfl ?_ | refine wd hT rfl rfl rfl ?_ | refine wz hT rfl ?_ | refine AWd_nil ?_ | refine AWk_nil ?_ | refine wh hT rfl rfl rfl rfl ?_ | refine wg hT rfl rfl rfl rfl rfl ?_ | refine AW_seq ?_ | refine AW_region ?_ | refine wx mixed ?_ | refine AW_block ?_ | refine AW_skip ?_ | refine AW_exit ?_ | refine AW_ret ?_)
  refine ret_exact rfl (.refl _) rfl rfl rfl rfl ⟨?_, rfl⟩
  show AV.d (.int .i64 (IntKind.i64.wrap (sIdx l s + 1))) = _
  rw [wrap_id (by omega)]

def chk : List (List UInt8) := [[102,111,114,109],[115,105,103,110,97,116,117,114,101],[112,97,116,104],[114,101,118,111,99,97,116,105,111,110],[102,114,101,115,104],[104,97,115,104,101,115],[103,114,111,117,112,115],[122,111,110,101],[101,120,112,105,114,121],[115,116,97,116,101],[97,99,99,101,115,115],[99,104,105,112],[97,99,116,105,118,101]]
def vls : List (List UInt8) := [[103,111,111,100],[98,97,100],[119,97,105,118,101,100],[109,105,115,115,105,110,103]]
def vds : List (List UInt8) := [[97,99,99,101,112,116],[114,101,102,101,114],[114,101,102,117,115,101]]

theorem Checks_spec : Spec Try.prog 31 [] [] (fun r h' => r = .d (.sl 1 (strsAV chk)) ∧ h' = []) := by
  refine Spec_of_body hT Try.func31 rfl rfl rfl rfl ?_
  intro E hE
  repeat (first | refine wk hT rfl rfl ?_ | refine wd hT rfl rfl rfl ?_ | refine wz hT rfl ?_ | refine AWd_nil ?_ | refine AWk_nil ?_ | refine wh hT rfl rfl rfl rfl ?_ | refine wg hT rfl rfl rfl rfl rfl ?_ | refine AW_seq ?_ | refine AW_region ?_ | refine wx mixed ?_ | refine AW_block ?_ | refine AW_skip ?_ | refine AW_exit ?_ | refine AW_ret ?_)
  exact ret_exact rfl AV.le.dat rfl rfl rfl rfl ⟨rfl, rfl⟩
theorem Values_spec : Spec Try.prog 32 [] [] (fun r h' => r = .d (.sl 1 (strsAV vls)) ∧ h' = []) := by
  refine Spec_of_body hT Try.func32 rfl rfl rfl rfl ?_
  intro E hE
  repeat (first | refine wk hT rfl rfl ?_ | refine wd hT rfl rfl rfl ?_ | refine wz hT rfl ?_ | refine AWd_nil ?_ | refine AWk_nil ?_ | refine wh hT rfl rfl rfl rfl ?_ | refine wg hT rfl rfl rfl rfl rfl ?_ | refine AW_seq ?_ | refine AW_region ?_ | refine wx mixed ?_ | refine AW_block ?_ | refine AW_skip ?_ | refine AW_exit ?_ | refine AW_ret ?_)
  exact ret_exact rfl AV.le.dat rfl rfl rfl rfl ⟨rfl, rfl⟩
theorem Verdicts_spec : Spec Try.prog 18 [] [] (fun r h' => r = .d (.sl 1 (strsAV vds)) ∧ h' = []) := by
  refine Spec_of_body hT Try.func18 rfl rfl rfl rfl ?_
  intro E hE
  repeat (first | refine wk hT rfl rfl ?_ | refine wd hT rfl rfl rfl ?_ | refine wz hT rfl ?_ | refine AWd_nil ?_ | refine AWk_nil ?_ | refine wh hT rfl rfl rfl rfl ?_ | refine wg hT rfl rfl rfl rfl rfl ?_ | refine AW_seq ?_ | refine AW_region ?_ | refine wx mixed ?_ | refine AW_block ?_ | refine AW_skip ?_ | refine AW_exit ?_ | refine AW_ret ?_)
  exact ret_exact rfl AV.le.dat rfl rfl rfl rfl ⟨rfl, rfl⟩
end Tdoc
/- The parser of package policy: words that are passed over, and lists of conditions. -/
set_option linter.unusedVariables false
set_option linter.unusedSimpArgs false
namespace Tdoc
open Go Go.Proofs

theorem low_psr (k : Nat) (text : List UInt8) (s : PS) : lowL k (psr text s) = true := by cases s; rfl
theorem lowH_psr (k : Nat) (text : List UInt8) (s : PS) : lowH k [.row (psr text s)] = true := by cases s; rfl

def isP (text : List UInt8) (s : PS) (w : List UInt8) : Bool × PS := if s.wr = true ∨ s.nt ≠ w then (false, s) else (true, nextP text s)
def oneP (text : List UInt8) (s : PS) (l : List (List UInt8)) : Int × PS := if sIdx l s.nt + 1 = 0 ∨ s.wr = true then (0, { s with wr := true }) else (sIdx l s.nt + 1, nextP text s)
def needP (text : List UInt8) (s : PS) (w : List UInt8) : PS := if (isP text s w).1 then (isP text s w).2 else { (isP text s w).2 with wr := true }

set_option maxRecDepth 100000 in
theorem is_spec (text : List UInt8) (s : PS) (w : List UInt8) (ha : s.a ≤ text.length) (hl : text.length ≤ 1000000) :
    Spec Try.prog 36 [.ptr 0 0, .d (.str w)] [.row (psr text s)] (fun r h' => r = .d (.bool (isP text s w).1) ∧ h' = [.row (psr text (isP text s w).2)]) := by
  have hnext := next_spec text s ha hl
  unfold isP
  generalize nextP text s = s' at hnext ⊢
  obtain ⟨a, nt, na, wr⟩ := s
  refine Spec_of_body hT Try.func36 rfl rfl rfl rfl ?_
  intro E hE
  repeat (first | refine wk hT rfl rfl ?_ | refine wd hT rfl rfl rfl ?_ | refine wz hT rfl ?_ | refine AWd_nil ?_ | refine AWk_nil ?_ | refine wh hT rfl rfl rfl rfl ?_ | refine wg hT rfl rfl rfl rfl rfl ?_ | refine AW_seq ?_ | refine AW_region ?_ | refine wx mixed ?_ | refine AW_block ?_ | refine AW_skip ?_ | refine AW_exit ?_ | refine AW_ret ?_)
  refine AW_condL rfl (fun h1 => ?_) (fun h1 => ?_)
  · have h1' : wr = true ∨ nt ≠ w := by simpa using h1
    rw [if_pos h1']
    repeat (first | refine wk hT rfl rfl ?_ | refine wd hT rfl rfl rfl ?_ | refine wz hT rfl ?_ | refine AWd_nil ?_ | refine AWk_nil ?_ | refine wh hT rfl rfl rfl rfl ?_ | refine wg hT rfl rfl rfl rfl rfl ?_ | refine AW_seq ?_ | refine AW_region ?_ | refine wx mixed ?_ | refine AW_block ?_ | refine AW_skip ?_ | refine AW_exit ?_ | refine AW_ret ?_)
    exact ret_exact rfl (.refl _) rfl rfl rfl rfl ⟨rfl, rfl⟩
  · have h1' : ¬ (wr = true ∨ nt ≠ w) := by simpa using h1
    rw [if_neg h1']
    repeat (first | refine wk hT rfl rfl ?_ | refine wd hT rfl rfl rfl ?_ | refine wz hT rfl ?_ | refine AWd_nil ?_ | refine AWk_nil ?_ | refine wh hT rfl rfl rfl rfl ?_ | refine wg hT rfl rfl rfl rfl rfl ?_ | refine AW_seq ?_ | refine AW_region ?_ | refine wx mixed ?_ | refine AW_block ?_ | refine AW_skip ?_ | refine AW_exit ?_ | refine AW_ret ?_)
    refine AWk_op (callS1 rfl rfl hnext [0] (by decide) rfl rfl rfl rfl (lowH_psr 0 _ _) rfl rfl) rfl ?_
    repeat (first | refine wk hT rfl rfl ?_ | refine wd hT rfl rfl rfl ?_ | refine wz hT rfl ?_ | refine AWd_nil ?_ | refine AWk_nil ?_ | refine wh hT rfl rfl rfl rfl ?_ | refine wg hT rfl rfl rfl rfl rfl ?_ | refine AW_seq ?_ | refine AW_region ?_ | refine wx mixed ?_ | refine AW_block ?_ | refine AW_skip ?_ | refine AW_exit ?_ | refine AW_ret ?_)
    exact ret_exact rfl (.refl _) rfl rfl rfl (lowH_psr _ _ _) ⟨rfl, rfl⟩

set_option maxRecDepth 100000 in
theorem one_spec (text : List UInt8) (s : PS) (l : List (List UInt8)) (ha : s.a ≤ text.length) (hl : text.length ≤ 1000000) (hll : l.length ≤ 1000000) :
    Spec Try.prog 35 [.ptr 0 0, .d (.sl 1 (strsAV l))] [.row (psr text s)] (fun r h' => r = .d (.int .i64 (oneP text s l).1) ∧ h' = [.row (psr text (oneP text s l).2)]) := by
  have hnext := next_spec text s ha hl
  unfold oneP
  generalize nextP text s = s' at hnext ⊢
  obtain ⟨a, nt, na, wr⟩ := s
  refine Spec_of_body hT Try.func35 rfl rfl rfl rfl ?_
  intro E hE
  repeat (first | refine wk hT rfl rfl ?_ | refine wd hT rfl rfl rfl ?_ | refine wz hT rfl ?_ | refine AWd_nil ?_ | refine AWk_nil ?_ | refine wh hT rfl rfl rfl rfl ?_ | refine wg hT rfl rfl rfl rfl rfl ?_ | refine AW_seq ?_ | refine AW_region ?_ | refine wx mixed ?_ | refine AW_block ?_ | refine AW_skip ?_ | refine AW_exit ?_ | refine AW_ret ?_)
  refine AWk_op (callS0 rfl rfl (number_spec l nt hll) rfl rfl rfl) rfl ?_
  repeat (first | refine wk hT rfl rfl ?_ | refine wd hT rfl rfl rfl ?_ | refine wz hT rfl ?_ | refine AWd_nil ?_ | refine AWk_nil ?_ | refine wh hT rfl rfl rfl rfl ?_ | refine wg hT rfl rfl rfl rfl rfl ?_ | refine AW_seq ?_ | refine AW_region ?_ | refine wx mixed ?_ | refine AW_block ?_ | refine AW_skip ?_ | refine AW_exit ?_ | refine AW_ret ?_)
  refine AW_condL rfl (fun h1 => ?_) (fun h1 => ?_)
  · have h1' : sIdx l nt + 1 = 0 ∨ wr = true := by simpa using h1
    rw [if_pos h1']
    repeat (first | refine wk hT rfl rfl ?_ | refine wd hT rfl rfl rfl ?_ | refine wz hT rfl ?_ | refine AWd_nil ?_ | refine AWk_nil ?_ | refine wh hT rfl rfl rfl rfl ?_ | refine wg hT rfl rfl rfl rfl rfl ?_ | refine AW_seq ?_ | refine AW_region ?_ | refine wx mixed ?_ | refine AW_block ?_ | refine AW_skip ?_ | refine AW_exit ?_ | refine AW_ret ?_)
    exact ret_exact rfl (.refl _) rfl rfl rfl rfl ⟨rfl, rfl⟩
  · have h1' : ¬ (sIdx l nt + 1 = 0 ∨ wr = true) := by simpa using h1
    rw [if_neg h1']
    repeat (first | refine wk hT rfl rfl ?_ | refine wd hT rfl rfl rfl ?_ | refine wz hT rfl ?_ | refine AWd_nil ?_ | refine AWk_nil ?_ | refine wh hT rfl rfl rfl rfl ?_ | refine wg hT rfl rfl rfl rfl rfl ?_ | refine AW_seq ?_ | refine AW_region ?_ | refine wx mixed ?_ | refine AW_block ?_ | refine AW_skip ?_ | refine AW_exit ?_ | refine AW_ret ?_)
    refine AWk_op (callS1 rfl rfl hnext [0] (by decide) rfl rfl rfl rfl (lowH_psr 0 _ _) rfl rfl) rfl ?_
    repeat (first | refine wk hT rfl rfl ?_ | refine wd hT rfl rfl rfl ?_ | refine wz hT rfl ?_ | refine AWd_nil ?_ | refine AWk_nil ?_ | refine wh hT rfl rfl rfl rfl ?_ | refine wg hT rfl rfl rfl rfl rfl ?_ | refine AW_seq ?_ | refine AW_region ?_ | refine wx mixed ?_ | refine AW_block ?_ | refine AW_skip ?_ | refine AW_exit ?_ | refine AW_ret ?_)
    exact ret_exact rfl (.refl _) rfl rfl rfl (lowH_psr _ _ _) ⟨rfl, rfl⟩

set_option maxRecDepth 100000 in
theorem need_spec (text : List UInt8) (s : PS) (w : List UInt8) (ha : s.a ≤ text.length) (hl : text.length ≤ 1000000) :
    Spec Try.prog 38 [.ptr 0 0, .d (.str w)] [.row (psr text s)] (fun r h' => r = .tup [] ∧ h' = [.row (psr text (needP text s w))]) := by
  have his := is_spec text s w ha hl
  unfold needP
  generalize isP text s w = bs at his ⊢
  obtain ⟨b, a, nt, na, wr⟩ := bs
  refine Spec_of_body hT Try.func38 rfl rfl rfl rfl ?_
  intro E hE
  repeat (first | refine wk hT rfl rfl ?_ | refine wd hT rfl rfl rfl ?_ | refine wz hT rfl ?_ | refine AWd_nil ?_ | refine AWk_nil ?_ | refine wh hT rfl rfl rfl rfl ?_ | refine wg hT rfl rfl rfl rfl rfl ?_ | refine AW_seq ?_ | refine AW_region ?_ | refine wx mixed ?_ | refine AW_block ?_ | refine AW_skip ?_ | refine AW_exit ?_ | refine AW_ret ?_)
  refine AWk_op (callS1 rfl rfl his [0] (by decide) rfl rfl rfl (lowH_psr 0 _ _) (lowH_psr 0 _ _) rfl rfl) rfl ?_
  repeat (first | refine wk hT rfl rfl ?_ | refine wd hT rfl rfl rfl ?_ | refine wz hT rfl ?_ | refine AWd_nil ?_ | refine AWk_nil ?_ | refine wh hT rfl rfl rfl rfl ?_ | refine wg hT rfl rfl rfl rfl rfl ?_ | refine AW_seq ?_ | refine AW_region ?_ | refine wx mixed ?_ | refine AW_block ?_ | refine AW_skip ?_ | refine AW_exit ?_ | refine AW_ret ?_)
  refine AW_condL rfl (fun h1 => ?_) (fun h1 => ?_)
  · have h1' : b = false := by simpa using h1
    subst h1'
    repeat (first | refine wk hT rfl rfl ?_ | refine wd hT rfl rfl rfl ?_ | refine wz hT rfl ?_ | refine AWd_nil ?_ | refine AWk_nil ?_ | refine wh hT rfl rfl rfl rfl ?_ | refine wg hT rfl rfl rfl rfl rfl ?_ | refine AW_seq ?_ | refine AW_region ?_ | refine wx mixed ?_ | refine AW_block ?_ | refine AW_skip ?_ | refine AW_exit ?_ | refine AW_ret ?_)
    exact ret_exactN rfl (.refl _) rfl rfl rfl rfl ⟨rfl, rfl⟩
  · have h1' : b = true := by simpa using h1
    subst h1'
    repeat (first | refine wk hT rfl rfl ?_ | refine wd hT rfl rfl rfl ?_ | refine wz hT rfl ?_ | refine AWd_nil ?_ | refine AWk_nil ?_ | refine wh hT rfl rfl rfl rfl ?_ | refine wg hT rfl rfl rfl rfl rfl ?_ | refine AW_seq ?_ | refine AW_region ?_ | refine wx mixed ?_ | refine AW_block ?_ | refine AW_skip ?_ | refine AW_exit ?_ | refine AW_ret ?_)
    exact ret_exactN rfl (.refl _) rfl rfl rfl rfl ⟨rfl, rfl⟩

/-! ### conditions -/
inductive Cond where
  | mk (k c v : Int) (kids : List Cond)

mutual
def encC : Cond → List Dat
  | .mk k c v kids => [.int .i64 k, .int .i64 c, .int .i64 v, .sl 4 (encCs kids)]
def encCs : List Cond → List (List Dat)
  | [] => []
  | a :: l => encC a :: encCs l
end

def cAV (c : Cond) : AV := .agg ((encC c).map .d)

theorem encCs_eq : ∀ (l : List Cond), encCs l = l.map encC
  | [] => rfl
  | a :: l => by simp [encCs, encCs_eq l]
theorem encCs_length (l : List Cond) : (encCs l).length = l.length := by rw [encCs_eq]; simp
theorem encCs_append (a b : List Cond) : encCs (a ++ b) = encCs a ++ encCs b := by simp [encCs_eq]
theorem low_cAV (k : Nat) (c : Cond) : low k (cAV c) = true := lowL_d (encC c)

set_option maxRecDepth 100000 in
theorem CloneR_spec (es : List (List Dat)) (hl : es.length ≤ 2000000) :
    Spec Try.prog 58 [.d (.sl 4 es)] [.room] (fun r h' => r = .sl 4 es (.right 0) ∧ h' = [.right 4 es.length]) := by
  refine Spec_of_body hT Try.func58 rfl rfl rfl rfl ?_
  intro E hE
  repeat (first | refine wk hT rfl rfl ?_ | refine wd hT rfl rfl rfl ?_ | refine wz hT rfl ?_ | refine AWd_nil ?_ | refine AWk_nil ?_ | refine wh hT rfl rfl rfl rfl ?_ | refine wg hT rfl rfl rfl rfl rfl ?_ | refine AW_seq ?_ | refine AW_region ?_ | refine wx mixed ?_ | refine AW_block ?_ | refine AW_skip ?_ | refine AW_exit ?_ | refine AW_ret ?_)
  refine AWk_opR (eqNil_ok hT (fun _ => rfl) rfl rfl rfl) rfl ?_
  rintro v h' ⟨rfl, b, rfl, hb⟩
  repeat (first | refine wk hT rfl rfl ?_ | refine wd hT rfl rfl rfl ?_ | refine wz hT rfl ?_ | refine AWd_nil ?_ | refine AWk_nil ?_ | refine wh hT rfl rfl rfl rfl ?_ | refine wg hT rfl rfl rfl rfl rfl ?_ | refine AW_seq ?_ | refine AW_region ?_ | refine wx mixed ?_ | refine AW_block ?_ | refine AW_skip ?_ | refine AW_exit ?_ | refine AW_ret ?_)
  refine AW_condL rfl (fun h1 => ?_) (fun h1 => ?_)
  · obtain rfl := hb h1
    refine AW_seq (AW_region ?_)
    repeat (first | refine wk hT rfl rfl ?_ | refine wd hT rfl rfl rfl ?_ | refine wz hT rfl ?_ | refine AWd_nil ?_ | refine AWk_nil ?_ | refine wh hT rfl rfl rfl rfl ?_ | refine wg hT rfl rfl rfl rfl rfl ?_)
    refine AW_acquireAt 2 4 0 (es := []) (.inr ⟨rfl, rfl⟩) rfl ?_
    repeat (first | refine wk hT rfl rfl ?_ | refine wd hT rfl rfl rfl ?_ | refine wz hT rfl ?_ | refine AWd_nil ?_ | refine AWk_nil ?_ | refine wh hT rfl rfl rfl rfl ?_ | refine wg hT rfl rfl rfl rfl rfl ?_ | refine AW_seq ?_ | refine AW_region ?_ | refine wx mixed ?_ | refine AW_block ?_ | refine AW_skip ?_ | refine AW_exit ?_ | refine AW_ret ?_)
    exact ret_exact rfl (.refl _) rfl rfl rfl rfl ⟨rfl, rfl⟩
  · repeat (first | refine wk hT rfl rfl ?_ | refine wd hT rfl rfl rfl ?_ | refine wz hT rfl ?_ | refine AWd_nil ?_ | refine AWk_nil ?_ | refine wh hT rfl rfl rfl rfl ?_ | refine wg hT rfl rfl rfl rfl rfl ?_ | refine AW_seq ?_ | refine AW_region ?_ | refine wx mixed ?_ | refine AW_block ?_ | refine AW_skip ?_ | refine AW_exit ?_ | refine AW_ret ?_)
    refine AWk_op (append_room (i := 0) hT rfl rfl rfl (.inl rfl) (by simp) rfl rfl (by simp; omega)) rfl ?_
    repeat (first | refine wk hT rfl rfl ?_ | refine wd hT rfl rfl rfl ?_ | refine wz hT rfl ?_ | refine AWd_nil ?_ | refine AWk_nil ?_ | refine wh hT rfl rfl rfl rfl ?_ | refine wg hT rfl rfl rfl rfl rfl ?_ | refine AW_seq ?_ | refine AW_region ?_ | refine wx mixed ?_ | refine AW_block ?_ | refine AW_skip ?_ | refine AW_exit ?_ | refine AW_ret ?_)
    exact ret_exact rfl (.refl _) rfl rfl rfl rfl ⟨rfl, by simp⟩

theorem Clone_spec (es : List (List Dat)) (hl : es.length ≤ 2000000) :
    Spec Try.prog 58 [.d (.sl 4 es)] [] (fun r h' => r = .d (.sl 4 es) ∧ h' = []) :=
  (CloneR_spec es hl).drop fun r h' ⟨h1, h2⟩ => ⟨_, by subst h1; exact AV.le.dat, rfl, rfl, rfl, rfl⟩

def flatC (kind : Int) : Cond → List Cond
  | .mk k c v kids => if k = kind then kids else [.mk k c v kids]

def wideC : Cond → Nat
  | .mk _ _ _ kids => kids.length

set_option maxRecDepth 100000 in
theorem flatR_spec (kind : Int) (c : Cond) (hl : wideC c ≤ 2000000) :
    Spec Try.prog 55 [.d (.int .i64 kind), cAV c] [.room] (fun r h' => r = .sl 4 (encCs (flatC kind c)) (.right 0) ∧ h' = [.right 4 (encCs (flatC kind c)).length]) := by
  obtain ⟨k, ch, v, kids⟩ := c
  simp only [wideC] at hl
  refine Spec_of_body hT Try.func55 rfl rfl rfl rfl ?_
  intro E hE
  repeat (first | refine wk hT rfl rfl ?_ | refine wd hT rfl rfl rfl ?_ | refine wz hT rfl ?_ | refine AWd_nil ?_ | refine AWk_nil ?_ | refine wh hT rfl rfl rfl rfl ?_ | refine wg hT rfl rfl rfl rfl rfl ?_ | refine AW_seq ?_ | refine AW_region ?_ | refine wx mixed ?_ | refine AW_block ?_ | refine AW_skip ?_ | refine AW_exit ?_ | refine AW_ret ?_)
  refine AW_condL rfl (fun h1 => ?_) (fun h1 => ?_)
  · have h1' : k = kind := by simpa using h1
    rw [flatC, if_pos h1']
    repeat (first | refine wk hT rfl rfl ?_ | refine wd hT rfl rfl rfl ?_ | refine wz hT rfl ?_ | refine AWd_nil ?_ | refine AWk_nil ?_ | refine wh hT rfl rfl rfl rfl ?_ | refine wg hT rfl rfl rfl rfl rfl ?_ | refine AW_seq ?_ | refine AW_region ?_ | refine wx mixed ?_ | refine AW_block ?_ | refine AW_skip ?_ | refine AW_exit ?_ | refine AW_ret ?_)
    refine AWk_op (callS1 rfl rfl (CloneR_spec (encCs kids) (by rw [encCs_length]; exact hl)) [0] (by decide) rfl rfl rfl rfl rfl rfl rfl) rfl ?_
    repeat (first | refine wk hT rfl rfl ?_ | refine wd hT rfl rfl rfl ?_ | refine wz hT rfl ?_ | refine AWd_nil ?_ | refine AWk_nil ?_ | refine wh hT rfl rfl rfl rfl ?_ | refine wg hT rfl rfl rfl rfl rfl ?_ | refine AW_seq ?_ | refine AW_region ?_ | refine wx mixed ?_ | refine AW_block ?_ | refine AW_skip ?_ | refine AW_exit ?_ | refine AW_ret ?_)
    exact ret_exact rfl (.refl _) rfl rfl rfl rfl ⟨rfl, rfl⟩
  · have h1' : ¬ k = kind := by simpa using h1
    rw [flatC, if_neg h1']
    repeat (first | refine AW_exit ?_ | refine AW_skip ?_)
    refine AW_seq (AW_region ?_)
    repeat (first | refine wk hT rfl rfl ?_ | refine wd hT rfl rfl rfl ?_ | refine wz hT rfl ?_ | refine AWd_nil ?_ | refine AWk_nil ?_ | refine wh hT rfl rfl rfl rfl ?_ | refine wg hT rfl rfl rfl rfl rfl ?_)
    refine AW_acquireAt 4 4 0 (.inl rfl) rfl ?_
    repeat (first | refine wk hT rfl rfl ?_ | refine wd hT rfl rfl rfl ?_ | refine wz hT rfl ?_ | refine AWd_nil ?_ | refine AWk_nil ?_ | refine wh hT rfl rfl rfl rfl ?_ | refine wg hT rfl rfl rfl rfl rfl ?_ | refine AW_seq ?_ | refine AW_region ?_ | refine wx mixed ?_ | refine AW_block ?_ | refine AW_skip ?_ | refine AW_exit ?_ | refine AW_ret ?_)
    exact ret_exact rfl (.refl _) rfl rfl rfl rfl ⟨rfl, rfl⟩

theorem flat_spec (kind : Int) (c : Cond) (hl : wideC c ≤ 2000000) :
    Spec Try.prog 55 [.d (.int .i64 kind), cAV c] [] (fun r h' => r = .d (.sl 4 (encCs (flatC kind c))) ∧ h' = []) :=
  (flatR_spec kind c hl).drop fun r h' ⟨h1, h2⟩ => ⟨_, by subst h1; exact AV.le.dat, rfl, rfl, rfl, rfl⟩
end Tdoc
/- The parser of package policy: a series of conditions with a word between them. -/
set_option linter.unusedVariables false
set_option linter.unusedSimpArgs false
namespace Tdoc
open Go Go.Proofs

structure Inv (text : List UInt8) (s : PS) : Prop where
  a : s.a = s.na + s.nt.length
  le : s.a ≤ text.length

theorem Inv.next {text : List UInt8} {s : PS} (h : Inv text s) : Inv text (nextP text s) ∧ s.na + s.nt.length ≤ (nextP text s).na ∧ (nextP text s).wr = s.wr := by
  have h1 := skipS_le false (text.drop s.a)
  have h2 := wlen_le (text.drop (s.a + skipS false (text.drop s.a)))
  simp only [List.length_drop] at h1 h2
  have := h.a; have := h.le
  refine ⟨⟨?_, nextP_le text s h.le⟩, ?_, rfl⟩
  · simp only [nextP, List.length_take, List.length_drop]; omega
  · simp only [nextP]; omega

theorem isP_true {text : List UInt8} {s : PS} {w : List UInt8} (h : Inv text s) (ht : (isP text s w).1 = true) : Inv text (isP text s w).2 ∧ s.na + w.length ≤ (isP text s w).2.na ∧ (isP text s w).2.na ≤ text.length := by
  unfold isP at ht ⊢
  split at ht
  · cases ht
  · rename_i hc
    rw [if_neg hc]
    have hw : s.nt = w := by simp at hc; exact hc.2
    obtain ⟨h1, h2, _⟩ := h.next
    rw [hw] at h2
    refine ⟨h1, h2, ?_⟩
    have := h1.a; have := h1.le; simp only at *; omega
theorem isP_false {text : List UInt8} {s : PS} {w : List UInt8} (ht : (isP text s w).1 = false) : (isP text s w).2 = s := by
  unfold isP at ht ⊢
  split
  · rfl
  · rename_i hc; rw [if_neg hc] at ht; cases ht

theorem Inv.wr {text : List UInt8} {s : PS} (h : Inv text s) (b : Bool) : Inv text { s with wr := b } := ⟨h.a, h.le⟩

theorem oneP_inv {text : List UInt8} {s : PS} {l : List (List UInt8)} (h : Inv text s) : Inv text (oneP text s l).2 ∧ s.na ≤ (oneP text s l).2.na := by
  unfold oneP
  split
  · exact ⟨h.wr true, Nat.le_refl _⟩
  · obtain ⟨h1, h2, _⟩ := h.next; exact ⟨h1, by simp only; omega⟩
theorem needP_inv {text : List UInt8} {s : PS} {w : List UInt8} (h : Inv text s) : Inv text (needP text s w) ∧ s.na ≤ (needP text s w).na := by
  unfold needP
  cases hb : (isP text s w).1 with
  | true => rw [if_pos rfl]; obtain ⟨h1, h2, _⟩ := isP_true h hb; exact ⟨h1, by omega⟩
  | false => rw [isP_false hb]; exact ⟨h.wr true, Nat.le_refl _⟩

def loopP (text : List UInt8) (kind : Int) (w : List UInt8) (part : PS → Cond × PS) : Nat → List Cond → PS → List Cond × PS
  | 0, l, s => (l, s)
  | m + 1, l, s => if (isP text s w).1 then loopP text kind w part m (l ++ flatC kind (part (isP text s w).2).1) (part (isP text s w).2).2 else (l, (isP text s w).2)

def seriesP (text : List UInt8) (kind : Int) (w : List UInt8) (part : PS → Cond × PS) (s : PS) : Cond × PS :=
  if (part s).2.nt ≠ w ∨ (part s).2.wr = true then part s else
    (.mk kind 0 0 (loopP text kind w part (text.length + 1) (flatC kind (part s).1) (part s).2).1, (loopP text kind w part (text.length + 1) (flatC kind (part s).1) (part s).2).2)

/-- What a part keeps. -/
structure PartOk (text : List UInt8) (n : Nat) (part : PS → Cond × PS) : Prop where
  inv : ∀ s, Inv text s → text.length - s.na < n → Inv text (part s).2 ∧ s.na ≤ (part s).2.na ∧ wideC (part s).1 ≤ 1 + ((part s).2.na - s.na)

theorem flatC_len (kind : Int) (c : Cond) : (flatC kind c).length ≤ max 1 (wideC c) := by
  cases c; simp only [flatC, wideC]; split
  · omega
  · simp only [List.length_cons, List.length_nil]; omega

theorem loopP_ok {text : List UInt8} {n : Nat} {part : PS → Cond × PS} (hp : PartOk text n part) (kind : Int) {w : List UInt8} (hw : w ≠ []) : ∀ (m : Nat) (l : List Cond) (s : PS) (b : Nat), Inv text s → text.length - s.na < n → l.length ≤ 1 + (s.na - b) → b ≤ s.na →
    Inv text (loopP text kind w part m l s).2 ∧ s.na ≤ (loopP text kind w part m l s).2.na ∧ (loopP text kind w part m l s).1.length ≤ 1 + ((loopP text kind w part m l s).2.na - b)
  | 0, l, s, b, h, hn, hl, hb => ⟨h, Nat.le_refl _, hl⟩
  | m + 1, l, s, b, h, hn, hl, hb => by
    unfold loopP
    cases hi : (isP text s w).1 with
    | false => rw [if_neg (by simp), isP_false hi]; exact ⟨h, Nat.le_refl _, hl⟩
    | true =>
      rw [if_pos rfl]
      obtain ⟨h1, h2, h3⟩ := isP_true h hi
      have hwl : 0 < w.length := List.length_pos_iff.2 hw
      obtain ⟨k1, k2, k3⟩ := hp.inv _ h1 (by omega)
      have hf := flatC_len kind (part (isP text s w).2).1
      have := loopP_ok hp kind hw m (l ++ flatC kind (part (isP text s w).2).1) _ b k1 (by omega) (by simp only [List.length_append]; omega) (by omega)
      exact ⟨this.1, by omega, this.2.2⟩

theorem seriesP_ok {text : List UInt8} {n : Nat} {part : PS → Cond × PS} (hp : PartOk text n part) (kind : Int) {w : List UInt8} (hw : w ≠ []) : PartOk text n (seriesP text kind w part) := by
  refine ⟨fun s h hn => ?_⟩
  obtain ⟨k1, k2, k3⟩ := hp.inv s h hn
  unfold seriesP
  split
  · exact ⟨k1, k2, k3⟩
  · have hf := flatC_len kind (part s).1
    have := loopP_ok hp kind hw (text.length + 1) (flatC kind (part s).1) (part s).2 s.na k1 (by omega) (by omega) k2
    exact ⟨this.1, by simp only; omega, by simp only [wideC]; exact this.2.2⟩

/-- The contract of a part. -/
def PartSpec (text : List UInt8) (n : Nat) (g : FuncId) (part : PS → Cond × PS) : Prop :=
  ∀ s, Inv text s → text.length - s.na < n → Spec Try.prog g [.ptr 0 0] [.row (psr text s)] (fun r h' => r = cAV (part s).1 ∧ h' = [.row (psr text (part s).2)])

theorem ren_cAV (f : Nat → Nat) (c : Cond) : ren f (cAV c) = cAV c := ren_low f _ (low_cAV 0 c)

set_option maxRecDepth 100000 in
theorem series_spec {text : List UInt8} {n : Nat} {g : FuncId} {part : PS → Cond × PS} (hl : text.length ≤ 1000000) (hp : PartOk text n part) (HS : PartSpec text n g part) (kind : Int) {w : List UInt8} (hw : w ≠ []) (s : PS) (h : Inv text s) (hn : text.length - s.na < n) :
    Spec Try.prog 50 [.ptr 0 0, .d (.int .i64 kind), .d (.str w), .fn (.func g) [.ptr 0 0] []] [.row (psr text s)] (fun r h' => r = cAV (seriesP text kind w part s).1 ∧ h' = [.row (psr text (seriesP text kind w part s).2)]) := by
  have hS := HS s h hn
  obtain ⟨k1, k2, k3⟩ := hp.inv s h hn
  unfold seriesP
  generalize hps : part s = ps at hS k1 k2 k3 ⊢
  obtain ⟨⟨ck, cc, cv, kids⟩, ⟨a1, nt1, na1, wr1⟩⟩ := ps
  simp only at hS k1 k2 k3 ⊢
  refine Spec_of_body hT Try.func50 rfl rfl rfl rfl ?_
  intro E hE
  repeat (first | refine wk hT rfl rfl ?_ | refine wd hT rfl rfl rfl ?_ | refine wz hT rfl ?_ | refine AWd_nil ?_ | refine AWk_nil ?_ | refine wh hT rfl rfl rfl rfl ?_ | refine wg hT rfl rfl rfl rfl rfl ?_ | refine AW_seq ?_ | refine AW_region ?_ | refine wx mixed ?_ | refine AW_block ?_ | refine AW_skip ?_ | refine AW_exit ?_ | refine AW_ret ?_)
  refine AWk_op (callS1 rfl rfl hS [0] (by decide) rfl rfl rfl (lowH_psr 0 _ _) (lowH_psr 0 _ _) (ren_cAV _ _) rfl) rfl ?_
  repeat (first | refine wk hT rfl rfl ?_ | refine wd hT rfl rfl rfl ?_ | refine wz hT rfl ?_ | refine AWd_nil ?_ | refine AWk_nil ?_ | refine wh hT rfl rfl rfl rfl ?_ | refine wg hT rfl rfl rfl rfl rfl ?_ | refine AW_seq ?_ | refine AW_region ?_ | refine wx mixed ?_ | refine AW_block ?_ | refine AW_skip ?_ | refine AW_exit ?_ | refine AW_ret ?_)
  refine AW_condL rfl (fun h1 => ?_) (fun h1 => ?_)
  · have h1' : nt1 ≠ w ∨ wr1 = true := by simpa using h1
    rw [if_pos h1']
    repeat (first | refine wk hT rfl rfl ?_ | refine wd hT rfl rfl rfl ?_ | refine wz hT rfl ?_ | refine AWd_nil ?_ | refine AWk_nil ?_ | refine wh hT rfl rfl rfl rfl ?_ | refine wg hT rfl rfl rfl rfl rfl ?_ | refine AW_seq ?_ | refine AW_region ?_ | refine wx mixed ?_ | refine AW_block ?_ | refine AW_skip ?_ | refine AW_exit ?_ | refine AW_ret ?_)
    exact ret_exact rfl (.refl _) rfl rfl rfl rfl ⟨rfl, rfl⟩
  · have h1' : ¬ (nt1 ≠ w ∨ wr1 = true) := by simpa using h1
    rw [if_neg h1']
    repeat (first | refine AW_exit ?_ | refine AW_skip ?_)
    refine AW_room ?_
    repeat (first | refine wk hT rfl rfl ?_ | refine wd hT rfl rfl rfl ?_ | refine wz hT rfl ?_ | refine AWd_nil ?_ | refine AWk_nil ?_ | refine wh hT rfl rfl rfl rfl ?_ | refine wg hT rfl rfl rfl rfl rfl ?_ | refine AW_seq ?_ | refine AW_region ?_ | refine wx mixed ?_ | refine AW_block ?_ | refine AW_skip ?_ | refine AW_exit ?_ | refine AW_ret ?_)
    have hwide : wideC (.mk ck cc cv kids) ≤ 2000000 := by have := k1.a; have := k1.le; simp only at *; omega
    refine AWk_op (callS rfl rfl (flatR_spec kind (.mk ck cc cv kids) hwide) [3] (by decide) rfl rfl rfl rfl rfl rfl) rfl ?_
    repeat (first | refine wk hT rfl rfl ?_ | refine wd hT rfl rfl rfl ?_ | refine wz hT rfl ?_ | refine AWd_nil ?_ | refine AWk_nil ?_ | refine wh hT rfl rfl rfl rfl ?_ | refine wg hT rfl rfl rfl rfl rfl ?_ | refine AW_seq ?_ | refine AW_region ?_ | refine wx mixed ?_ | refine AW_block ?_ | refine AW_skip ?_ | refine AW_exit ?_ | refine AW_ret ?_)
    generalize hfin : loopP text kind w part (text.length + 1) (flatC kind (.mk ck cc cv kids)) ⟨a1, nt1, na1, wr1⟩ = fin
    have hf := flatC_len kind (.mk ck cc cv kids)
    refine AW_loopC (ι := List Cond × PS)
      (fun x => [(0, .ptr 0 0), (1, .d (.int .i64 kind)), (2, .d (.str w)), (3, .fn (.func g) [.ptr 0 0] []), (8, .ptr 1 0), (10, .sl 4 (encCs x.1) (.right 3))])
      (fun x => [.row (psr text x.2), .row [.d (.int .i64 0), .d (.int .i64 0), .d (.int .i64 0), .sl 4 [] .full], .dead, .right 4 (encCs x.1).length])
      (fun x => Inv text x.2 ∧ s.na ≤ x.2.na ∧ x.1.length ≤ 1 + (x.2.na - s.na) ∧ ∃ m, text.length - x.2.na < m ∧ loopP text kind w part m x.1 x.2 = fin)
      (fun x => text.length - x.2.na) (flatC kind (.mk ck cc cv kids), ⟨a1, nt1, na1, wr1⟩) ⟨k1, k2, by simp only [wideC] at *; omega, _, by simp only; omega, hfin⟩
      ⟨.refl _, .refl _, .refl _, .refl _, .refl _, .refl _, trivial⟩ ⟨ObLe.refl _, ObLe.refl _, trivial, ObLe.refl _, trivial⟩ ?_
    rintro ⟨l, s1⟩ ⟨i1, i2, i3, m, i4, i5⟩
    simp only at i1 i2 i3 i4 i5 ⊢
    have his := is_spec text s1 w i1.le hl
    have hit := isP_true (w := w) i1
    have hif := isP_false (text := text) (s := s1) (w := w)
    obtain ⟨m, rfl⟩ : ∃ m', m = m' + 1 := ⟨m - 1, by omega⟩
    rw [loopP] at i5
    generalize isP text s1 w = bs at his hit hif i5
    obtain ⟨b, s2⟩ := bs
    simp only at his hit hif i5
    repeat (first | refine wk hT rfl rfl ?_ | refine wd hT rfl rfl rfl ?_ | refine wz hT rfl ?_ | refine AWd_nil ?_ | refine AWk_nil ?_ | refine wh hT rfl rfl rfl rfl ?_ | refine wg hT rfl rfl rfl rfl rfl ?_ | refine AW_seq ?_ | refine AW_region ?_ | refine wx mixed ?_ | refine AW_block ?_ | refine AW_skip ?_ | refine AW_exit ?_ | refine AW_ret ?_)
    refine AWk_op (callS1 rfl rfl his [0] (by decide) rfl rfl rfl (lowH_psr 0 _ _) (lowH_psr 0 _ _) rfl rfl) rfl ?_
    repeat (first | refine wk hT rfl rfl ?_ | refine wd hT rfl rfl rfl ?_ | refine wz hT rfl ?_ | refine AWd_nil ?_ | refine AWk_nil ?_ | refine wh hT rfl rfl rfl rfl ?_ | refine wg hT rfl rfl rfl rfl rfl ?_ | refine AW_seq ?_ | refine AW_region ?_ | refine wx mixed ?_ | refine AW_block ?_ | refine AW_skip ?_ | refine AW_exit ?_ | refine AW_ret ?_)
    refine AW_condL rfl (fun h2 => ?_) (fun h2 => ?_)
    · subst h2
      obtain ⟨j1, j2, j3⟩ := hit rfl
      rw [if_pos rfl] at i5
      have hwl : 0 < w.length := List.length_pos_iff.2 hw
      have hS2 := HS s2 j1 (by omega)
      obtain ⟨q1, q2, q3⟩ := hp.inv s2 j1 (by omega)
      generalize part s2 = ps2 at hS2 q1 q2 q3 i5
      obtain ⟨c2, s3⟩ := ps2
      simp only at hS2 q1 q2 q3 i5
      have hf2 := flatC_len kind c2
      have hq1 := q1.le; have hq2 := q1.a
      repeat (first | refine wk hT rfl rfl ?_ | refine wd hT rfl rfl rfl ?_ | refine wz hT rfl ?_ | refine AWd_nil ?_ | refine AWk_nil ?_ | refine wh hT rfl rfl rfl rfl ?_ | refine wg hT rfl rfl rfl rfl rfl ?_ | refine AW_seq ?_ | refine AW_region ?_ | refine wx mixed ?_ | refine AW_block ?_ | refine AW_skip ?_ | refine AW_exit ?_ | refine AW_ret ?_)
      refine AWk_op (callS1 rfl rfl hS2 [0] (by decide) rfl rfl rfl (lowH_psr 0 _ _) (lowH_psr 0 _ _) (ren_cAV _ _) rfl) rfl ?_
      refine AWk_op (callS0 rfl rfl (flat_spec kind c2 (by omega)) rfl (by simp [lowL, low_cAV, low]) rfl) rfl ?_
      refine AWk_op (append_right (i := 3) hT rfl rfl rfl rfl rfl rfl (by show ((encCs l).length + (encCs (flatC kind c2)).length) * (48 + 1) ≤ 140737488355328; rw [encCs_length, encCs_length]; omega)) rfl ?_
      repeat (first | refine wk hT rfl rfl ?_ | refine wd hT rfl rfl rfl ?_ | refine wz hT rfl ?_ | refine AWd_nil ?_ | refine AWk_nil ?_ | refine wh hT rfl rfl rfl rfl ?_ | refine wg hT rfl rfl rfl rfl rfl ?_ | refine AW_seq ?_ | refine AW_region ?_ | refine wx mixed ?_ | refine AW_block ?_ | refine AW_skip ?_ | refine AW_exit ?_ | refine AW_ret ?_)
      refine ⟨(l ++ flatC kind c2, s3), [], ⟨q1, by simp only; omega, by simp only [List.length_append]; omega, m, by simp only; omega, i5⟩, by simp only; omega, ⟨.refl _, .refl _, .refl _, .refl _, .refl _, AV.le.eq ?_, trivial⟩, ⟨ObLe.refl _, ObLe.refl _, trivial, ?_, trivial⟩, Env.below_mono hE (by simp), rfl, ?_⟩
      · simp only [encCs_append]; rfl
      · exact ⟨rfl, by simp only [encCs_length, List.length_append]⟩
      · simp only [lowH, lowO, low_psr]; rfl
    · subst h2
      rw [if_neg (by simp)] at i5
      have := hif rfl
      subst this
      repeat (first | refine wk hT rfl rfl ?_ | refine wd hT rfl rfl rfl ?_ | refine wz hT rfl ?_ | refine AWd_nil ?_ | refine AWk_nil ?_ | refine wh hT rfl rfl rfl rfl ?_ | refine wg hT rfl rfl rfl rfl rfl ?_ | refine AW_seq ?_ | refine AW_region ?_ | refine wx mixed ?_ | refine AW_block ?_ | refine AW_skip ?_ | refine AW_exit ?_ | refine AW_ret ?_)
      refine ret_exact (r := cAV (.mk kind 0 0 l)) rfl (AV.le.agg ⟨.refl _, .refl _, .refl _, AV.le.dat, trivial⟩) rfl rfl rfl (lowH_psr _ _ _) ⟨?_, ?_⟩
      · rw [← i5]
      · rw [← i5]; rfl
end Tdoc
/- The parser of package policy: conditions. -/
set_option linter.unusedVariables false
set_option linter.unusedSimpArgs false
namespace Tdoc
open Go Go.Proofs

def andW : List UInt8 := [97, 110, 100]
def orW : List UInt8 := [111, 114]
def notW : List UInt8 := [110, 111, 116]
def isW : List UInt8 := [105, 115]
def lpW : List UInt8 := [40]
def rpW : List UInt8 := [41]
def ifW : List UInt8 := [105, 102]
def scW : List UInt8 := [59]

def isAtomP (text : List UInt8) (s : PS) : Cond × PS :=
  if (isP text (oneP text s chk).2 isW).1 then (.mk 1 (oneP text s chk).1 (oneP text (isP text (oneP text s chk).2 isW).2 vls).1 [], (oneP text (isP text (oneP text s chk).2 isW).2 vls).2)
  else (.mk 1 (oneP text s chk).1 1 [], (isP text (oneP text s chk).2 isW).2)

def atomP (text : List UInt8) : Nat → PS → Cond × PS
  | 0, s => (.mk 0 0 0 [], s)
  | n + 1, s =>
    if (isP text s notW).1 then (.mk 2 0 0 [(atomP text n (isP text s notW).2).1], (atomP text n (isP text s notW).2).2)
    else if (isP text (isP text s notW).2 lpW).1 then
      ((seriesP text 4 orW (seriesP text 3 andW (atomP text n)) (isP text (isP text s notW).2 lpW).2).1, needP text (seriesP text 4 orW (seriesP text 3 andW (atomP text n)) (isP text (isP text s notW).2 lpW).2).2 rpW)
    else isAtomP text (isP text (isP text s notW).2 lpW).2

def conjP (text : List UInt8) (n : Nat) : PS → Cond × PS := seriesP text 3 andW (atomP text n)
def condP (text : List UInt8) (n : Nat) : PS → Cond × PS := seriesP text 4 orW (conjP text n)

theorem isP_inv {text : List UInt8} {s : PS} {w : List UInt8} (h : Inv text s) : Inv text (isP text s w).2 ∧ s.na ≤ (isP text s w).2.na := by
  cases hb : (isP text s w).1 with
  | true => obtain ⟨h1, h2, _⟩ := isP_true h hb; exact ⟨h1, by omega⟩
  | false => rw [isP_false hb]; exact ⟨h, Nat.le_refl _⟩

theorem isAtomP_ok {text : List UInt8} {s : PS} (h : Inv text s) : Inv text (isAtomP text s).2 ∧ s.na ≤ (isAtomP text s).2.na ∧ wideC (isAtomP text s).1 = 0 := by
  obtain ⟨h1, h2⟩ := oneP_inv (l := chk) h
  obtain ⟨h3, h4⟩ := isP_inv (w := isW) h1
  unfold isAtomP
  split
  · obtain ⟨h5, h6⟩ := oneP_inv (l := vls) h3
    exact ⟨h5, by simp only; omega, rfl⟩
  · exact ⟨h3, by simp only; omega, rfl⟩

theorem atomP_ok (text : List UInt8) : ∀ n, PartOk text n (atomP text n)
  | 0 => ⟨fun s _ hn => by omega⟩
  | n + 1 => by
    have ih := atomP_ok text n
    refine ⟨fun s h hn => ?_⟩
    unfold atomP
    cases h1 : (isP text s notW).1 with
    | true =>
      rw [if_pos rfl]
      obtain ⟨k1, k2, k3⟩ := isP_true h h1
      have : notW.length = 3 := rfl
      obtain ⟨q1, q2, q3⟩ := ih.inv _ k1 (by omega)
      exact ⟨q1, by simp only; omega, by simp only [wideC, List.length_cons, List.length_nil]; omega⟩
    | false =>
      rw [if_neg (by simp), isP_false h1]
      cases h2 : (isP text s lpW).1 with
      | true =>
        rw [if_pos rfl]
        obtain ⟨k1, k2, k3⟩ := isP_true h h2
        have : lpW.length = 1 := rfl
        obtain ⟨q1, q2, q3⟩ := (seriesP_ok (seriesP_ok ih 3 (w := andW) (by decide)) 4 (w := orW) (by decide)).inv _ k1 (by omega)
        obtain ⟨r1, r2⟩ := needP_inv (w := rpW) q1
        exact ⟨r1, by simp only; omega, by simp only; omega⟩
      | false =>
        rw [if_neg (by simp), isP_false h2]
        obtain ⟨q1, q2, q3⟩ := isAtomP_ok h
        exact ⟨q1, q2, by omega⟩

theorem conjP_ok (text : List UInt8) (n : Nat) : PartOk text n (conjP text n) := seriesP_ok (atomP_ok text n) 3 (by decide)
theorem condP_ok (text : List UInt8) (n : Nat) : PartOk text n (condP text n) := seriesP_ok (conjP_ok text n) 4 (by decide)

set_option maxRecDepth 100000 in
theorem conj_spec {text : List UInt8} {n : Nat} (hl : text.length ≤ 1000000) (HS : PartSpec text n 56 (atomP text n)) : PartSpec text n 51 (conjP text n) := by
  intro s h hn
  have hs := series_spec hl (atomP_ok text n) HS 3 (w := andW) (by decide) s h hn
  unfold conjP
  generalize seriesP text 3 andW (atomP text n) s = r at hs ⊢
  obtain ⟨⟨k, c, v, kids⟩, s'⟩ := r
  refine Spec_of_body hT Try.func51 rfl rfl rfl rfl ?_
  intro E hE
  repeat (first | refine wk hT rfl rfl ?_ | refine wd hT rfl rfl rfl ?_ | refine wz hT rfl ?_ | refine AWd_nil ?_ | refine AWk_nil ?_ | refine wh hT rfl rfl rfl rfl ?_ | refine wg hT rfl rfl rfl rfl rfl ?_ | refine AW_seq ?_ | refine AW_region ?_ | refine wx mixed ?_ | refine AW_block ?_ | refine AW_skip ?_ | refine AW_exit ?_ | refine AW_ret ?_)
  refine AWk_op (callS1 rfl rfl hs [0] (by decide) rfl rfl rfl (lowH_psr 0 _ _) (lowH_psr 0 _ _) (ren_cAV _ _) rfl) rfl ?_
  repeat (first | refine wk hT rfl rfl ?_ | refine wd hT rfl rfl rfl ?_ | refine wz hT rfl ?_ | refine AWd_nil ?_ | refine AWk_nil ?_ | refine wh hT rfl rfl rfl rfl ?_ | refine wg hT rfl rfl rfl rfl rfl ?_ | refine AW_seq ?_ | refine AW_region ?_ | refine wx mixed ?_ | refine AW_block ?_ | refine AW_skip ?_ | refine AW_exit ?_ | refine AW_ret ?_)
  exact ret_exact rfl (.refl _) rfl rfl rfl (lowH_psr _ _ _) ⟨rfl, rfl⟩

set_option maxRecDepth 100000 in
theorem cond_spec {text : List UInt8} {n : Nat} (hl : text.length ≤ 1000000) (HS : PartSpec text n 51 (conjP text n)) : PartSpec text n 37 (condP text n) := by
  intro s h hn
  have hs := series_spec hl (conjP_ok text n) HS 4 (w := orW) (by decide) s h hn
  unfold condP
  generalize seriesP text 4 orW (conjP text n) s = r at hs ⊢
  obtain ⟨⟨k, c, v, kids⟩, s'⟩ := r
  refine Spec_of_body hT Try.func37 rfl rfl rfl rfl ?_
  intro E hE
  repeat (first | refine wk hT rfl rfl ?_ | refine wd hT rfl rfl rfl ?_ | refine wz hT rfl ?_ | refine AWd_nil ?_ | refine AWk_nil ?_ | refine wh hT rfl rfl rfl rfl ?_ | refine wg hT rfl rfl rfl rfl rfl ?_ | refine AW_seq ?_ | refine AW_region ?_ | refine wx mixed ?_ | refine AW_block ?_ | refine AW_skip ?_ | refine AW_exit ?_ | refine AW_ret ?_)
  refine AWk_op (callS1 rfl rfl hs [0] (by decide) rfl rfl rfl (lowH_psr 0 _ _) (lowH_psr 0 _ _) (ren_cAV _ _) rfl) rfl ?_
  repeat (first | refine wk hT rfl rfl ?_ | refine wd hT rfl rfl rfl ?_ | refine wz hT rfl ?_ | refine AWd_nil ?_ | refine AWk_nil ?_ | refine wh hT rfl rfl rfl rfl ?_ | refine wg hT rfl rfl rfl rfl rfl ?_ | refine AW_seq ?_ | refine AW_region ?_ | refine wx mixed ?_ | refine AW_block ?_ | refine AW_skip ?_ | refine AW_exit ?_ | refine AW_ret ?_)
  exact ret_exact rfl (.refl _) rfl rfl rfl (lowH_psr _ _ _) ⟨rfl, rfl⟩

set_option maxRecDepth 100000 in
theorem atom_spec {text : List UInt8} (hl : text.length ≤ 1000000) : ∀ n, PartSpec text n 56 (atomP text n)
  | 0 => fun s _ hn => by omega
  | n + 1 => by
    have ih := atom_spec hl n
    have hc := cond_spec hl (conj_spec hl ih)
    intro s h hn
    have his1 := is_spec text s notW h.le hl
    unfold atomP
    cases h1 : (isP text s notW).1 with
    | true =>
      rw [if_pos rfl]
      obtain ⟨k1, k2, k3⟩ := isP_true h h1
      have : notW.length = 3 := rfl
      have hS := ih _ k1 (by omega)
      rw [h1] at his1
      generalize (isP text s notW).2 = s1 at his1 hS ⊢
      generalize atomP text n s1 = r at hS ⊢
      obtain ⟨⟨k, c, v, kids⟩, s2⟩ := r
      refine Spec_of_body hT Try.func56 rfl rfl rfl rfl ?_
      intro E hE
      repeat (first | refine wk hT rfl rfl ?_ | refine wd hT rfl rfl rfl ?_ | refine wz hT rfl ?_ | refine AWd_nil ?_ | refine AWk_nil ?_ | refine wh hT rfl rfl rfl rfl ?_ | refine wg hT rfl rfl rfl rfl rfl ?_ | refine AW_seq ?_ | refine AW_region ?_ | refine wx mixed ?_ | refine AW_block ?_ | refine AW_skip ?_ | refine AW_exit ?_ | refine AW_ret ?_)
      refine AWk_op (callS1 rfl rfl his1 [0] (by decide) rfl rfl rfl (lowH_psr 0 _ _) (lowH_psr 0 _ _) rfl rfl) rfl ?_
      repeat (first | refine wk hT rfl rfl ?_ | refine wd hT rfl rfl rfl ?_ | refine wz hT rfl ?_ | refine AWd_nil ?_ | refine AWk_nil ?_ | refine wh hT rfl rfl rfl rfl ?_ | refine wg hT rfl rfl rfl rfl rfl ?_ | refine AW_seq ?_ | refine AW_region ?_ | refine wx mixed ?_ | refine AW_block ?_ | refine AW_skip ?_ | refine AW_exit ?_ | refine AW_ret ?_)
      refine AW_condL rfl (fun _ => ?_) (fun hf => by cases hf)
      repeat (first | refine wk hT rfl rfl ?_ | refine wd hT rfl rfl rfl ?_ | refine wz hT rfl ?_ | refine AWd_nil ?_ | refine AWk_nil ?_ | refine wh hT rfl rfl rfl rfl ?_ | refine wg hT rfl rfl rfl rfl rfl ?_ | refine AW_seq ?_ | refine AW_region ?_ | refine wx mixed ?_ | refine AW_block ?_ | refine AW_skip ?_ | refine AW_exit ?_ | refine AW_ret ?_)
      refine AWk_op (callS1 rfl rfl hS [0] (by decide) rfl rfl rfl (lowH_psr 0 _ _) (lowH_psr 0 _ _) (ren_cAV _ _) rfl) rfl ?_
      repeat (first | refine wk hT rfl rfl ?_ | refine wd hT rfl rfl rfl ?_ | refine wz hT rfl ?_ | refine AWd_nil ?_ | refine AWk_nil ?_ | refine wh hT rfl rfl rfl rfl ?_ | refine wg hT rfl rfl rfl rfl rfl ?_ | refine AW_seq ?_ | refine AW_region ?_ | refine wx mixed ?_ | refine AW_block ?_ | refine AW_skip ?_ | refine AW_exit ?_ | refine AW_ret ?_)
      exact ret_exact (r := cAV (.mk 2 0 0 [.mk k c v kids])) rfl (AV.le.agg ⟨.refl _, .refl _, .refl _, AV.le.dat, trivial⟩) rfl rfl rfl (lowH_psr _ _ _) ⟨rfl, rfl⟩
    | false =>
      rw [if_neg (by simp)]
      have hs1 := isP_false h1
      rw [hs1]
      rw [h1, hs1] at his1
      have his2 := is_spec text s lpW h.le hl
      cases h2 : (isP text s lpW).1 with
      | true =>
        rw [if_pos rfl]
        obtain ⟨k1, k2, k3⟩ := isP_true h h2
        have : lpW.length = 1 := rfl
        have hS := hc _ k1 (by omega)
        rw [h2] at his2
        obtain ⟨q1, q2, q3⟩ := (condP_ok text n).inv _ k1 (by omega)
        have hneed := need_spec text (condP text n (isP text s lpW).2).2 rpW q1.le hl
        show Spec _ _ _ _ (fun r h' => r = cAV (condP text n (isP text s lpW).2).1 ∧ h' = [.row (psr text (needP text (condP text n (isP text s lpW).2).2 rpW))])
        generalize (isP text s lpW).2 = s1 at his2 hS hneed ⊢
        generalize condP text n s1 = r at hS hneed ⊢
        obtain ⟨⟨k, c, v, kids⟩, s2⟩ := r
        simp only at hS hneed ⊢
        generalize needP text s2 rpW = s3 at hneed ⊢
        refine Spec_of_body hT Try.func56 rfl rfl rfl rfl ?_
        intro E hE
        repeat (first | refine wk hT rfl rfl ?_ | refine wd hT rfl rfl rfl ?_ | refine wz hT rfl ?_ | refine AWd_nil ?_ | refine AWk_nil ?_ | refine wh hT rfl rfl rfl rfl ?_ | refine wg hT rfl rfl rfl rfl rfl ?_ | refine AW_seq ?_ | refine AW_region ?_ | refine wx mixed ?_ | refine AW_block ?_ | refine AW_skip ?_ | refine AW_exit ?_ | refine AW_ret ?_)
        refine AWk_op (callS1 rfl rfl his1 [0] (by decide) rfl rfl rfl (lowH_psr 0 _ _) (lowH_psr 0 _ _) rfl rfl) rfl ?_
        repeat (first | refine wk hT rfl rfl ?_ | refine wd hT rfl rfl rfl ?_ | refine wz hT rfl ?_ | refine AWd_nil ?_ | refine AWk_nil ?_ | refine wh hT rfl rfl rfl rfl ?_ | refine wg hT rfl rfl rfl rfl rfl ?_ | refine AW_seq ?_ | refine AW_region ?_ | refine wx mixed ?_ | refine AW_block ?_ | refine AW_skip ?_ | refine AW_exit ?_ | refine AW_ret ?_)
        refine AW_condL rfl (fun hf => by cases hf) (fun _ => ?_)
        repeat (first | refine wk hT rfl rfl ?_ | refine wd hT rfl rfl rfl ?_ | refine wz hT rfl ?_ | refine AWd_nil ?_ | refine AWk_nil ?_ | refine wh hT rfl rfl rfl rfl ?_ | refine wg hT rfl rfl rfl rfl rfl ?_ | refine AW_seq ?_ | refine AW_region ?_ | refine wx mixed ?_ | refine AW_block ?_ | refine AW_skip ?_ | refine AW_exit ?_ | refine AW_ret ?_)
        refine AWk_op (callS1 rfl rfl his2 [0] (by decide) rfl rfl rfl (lowH_psr 0 _ _) (lowH_psr 0 _ _) rfl rfl) rfl ?_
        repeat (first | refine wk hT rfl rfl ?_ | refine wd hT rfl rfl rfl ?_ | refine wz hT rfl ?_ | refine AWd_nil ?_ | refine AWk_nil ?_ | refine wh hT rfl rfl rfl rfl ?_ | refine wg hT rfl rfl rfl rfl rfl ?_ | refine AW_seq ?_ | refine AW_region ?_ | refine wx mixed ?_ | refine AW_block ?_ | refine AW_skip ?_ | refine AW_exit ?_ | refine AW_ret ?_)
        refine AW_condL rfl (fun _ => ?_) (fun hf => by cases hf)
        repeat (first | refine wk hT rfl rfl ?_ | refine wd hT rfl rfl rfl ?_ | refine wz hT rfl ?_ | refine AWd_nil ?_ | refine AWk_nil ?_ | refine wh hT rfl rfl rfl rfl ?_ | refine wg hT rfl rfl rfl rfl rfl ?_ | refine AW_seq ?_ | refine AW_region ?_ | refine wx mixed ?_ | refine AW_block ?_ | refine AW_skip ?_ | refine AW_exit ?_ | refine AW_ret ?_)
        refine AWk_op (callS1 rfl rfl hS [0] (by decide) rfl rfl rfl (lowH_psr 0 _ _) (lowH_psr 0 _ _) (ren_cAV _ _) rfl) rfl ?_
        repeat (first | refine wk hT rfl rfl ?_ | refine wd hT rfl rfl rfl ?_ | refine wz hT rfl ?_ | refine AWd_nil ?_ | refine AWk_nil ?_ | refine wh hT rfl rfl rfl rfl ?_ | refine wg hT rfl rfl rfl rfl rfl ?_ | refine AW_seq ?_ | refine AW_region ?_ | refine wx mixed ?_ | refine AW_block ?_ | refine AW_skip ?_ | refine AW_exit ?_ | refine AW_ret ?_)
        refine AWk_op (callS1 rfl rfl hneed [0] (by decide) rfl rfl rfl (lowH_psr 0 _ _) (lowH_psr 0 _ _) rfl rfl) rfl ?_
        repeat (first | refine wk hT rfl rfl ?_ | refine wd hT rfl rfl rfl ?_ | refine wz hT rfl ?_ | refine AWd_nil ?_ | refine AWk_nil ?_ | refine wh hT rfl rfl rfl rfl ?_ | refine wg hT rfl rfl rfl rfl rfl ?_ | refine AW_seq ?_ | refine AW_region ?_ | refine wx mixed ?_ | refine AW_block ?_ | refine AW_skip ?_ | refine AW_exit ?_ | refine AW_ret ?_)
        exact ret_exact rfl (.refl _) rfl rfl rfl (lowH_psr _ _ _) ⟨rfl, rfl⟩
      | false =>
        rw [if_neg (by simp)]
        have hs2 := isP_false h2
        rw [hs2]
        rw [h2, hs2] at his2
        have hone := one_spec text s chk h.le hl (by decide)
        obtain ⟨q1, q2⟩ := oneP_inv (l := chk) h
        unfold isAtomP
        generalize oneP text s chk = r1 at hone q1 q2 ⊢
        obtain ⟨n1, s1⟩ := r1
        simp only at hone q1 q2 ⊢
        have his3 := is_spec text s1 isW q1.le hl
        obtain ⟨j1, j2⟩ := isP_inv (w := isW) q1
        generalize isP text s1 isW = r2 at his3 j1 j2 ⊢
        obtain ⟨b2, s2⟩ := r2
        simp only at his3 j1 j2 ⊢
        have hone2 := one_spec text s2 vls j1.le hl (by decide)
        generalize oneP text s2 vls = r3 at hone2 ⊢
        obtain ⟨n3, s3⟩ := r3
        simp only at hone2 ⊢
        refine Spec_of_body hT Try.func56 rfl rfl rfl rfl ?_
        intro E hE
        repeat (first | refine wk hT rfl rfl ?_ | refine wd hT rfl rfl rfl ?_ | refine wz hT rfl ?_ | refine AWd_nil ?_ | refine AWk_nil ?_ | refine wh hT rfl rfl rfl rfl ?_ | refine wg hT rfl rfl rfl rfl rfl ?_ | refine AW_seq ?_ | refine AW_region ?_ | refine wx mixed ?_ | refine AW_block ?_ | refine AW_skip ?_ | refine AW_exit ?_ | refine AW_ret ?_)
        refine AWk_op (callS1 rfl rfl his1 [0] (by decide) rfl rfl rfl (lowH_psr 0 _ _) (lowH_psr 0 _ _) rfl rfl) rfl ?_
        repeat (first | refine wk hT rfl rfl ?_ | refine wd hT rfl rfl rfl ?_ | refine wz hT rfl ?_ | refine AWd_nil ?_ | refine AWk_nil ?_ | refine wh hT rfl rfl rfl rfl ?_ | refine wg hT rfl rfl rfl rfl rfl ?_ | refine AW_seq ?_ | refine AW_region ?_ | refine wx mixed ?_ | refine AW_block ?_ | refine AW_skip ?_ | refine AW_exit ?_ | refine AW_ret ?_)
        refine AW_condL rfl (fun hf => by cases hf) (fun _ => ?_)
        repeat (first | refine wk hT rfl rfl ?_ | refine wd hT rfl rfl rfl ?_ | refine wz hT rfl ?_ | refine AWd_nil ?_ | refine AWk_nil ?_ | refine wh hT rfl rfl rfl rfl ?_ | refine wg hT rfl rfl rfl rfl rfl ?_ | refine AW_seq ?_ | refine AW_region ?_ | refine wx mixed ?_ | refine AW_block ?_ | refine AW_skip ?_ | refine AW_exit ?_ | refine AW_ret ?_)
        refine AWk_op (callS1 rfl rfl his2 [0] (by decide) rfl rfl rfl (lowH_psr 0 _ _) (lowH_psr 0 _ _) rfl rfl) rfl ?_
        repeat (first | refine wk hT rfl rfl ?_ | refine wd hT rfl rfl rfl ?_ | refine wz hT rfl ?_ | refine AWd_nil ?_ | refine AWk_nil ?_ | refine wh hT rfl rfl rfl rfl ?_ | refine wg hT rfl rfl rfl rfl rfl ?_ | refine AW_seq ?_ | refine AW_region ?_ | refine wx mixed ?_ | refine AW_block ?_ | refine AW_skip ?_ | refine AW_exit ?_ | refine AW_ret ?_)
        refine AW_condL rfl (fun hf => by cases hf) (fun _ => ?_)
        repeat (first | refine wk hT rfl rfl ?_ | refine wd hT rfl rfl rfl ?_ | refine wz hT rfl ?_ | refine AWd_nil ?_ | refine AWk_nil ?_ | refine wh hT rfl rfl rfl rfl ?_ | refine wg hT rfl rfl rfl rfl rfl ?_ | refine AW_seq ?_ | refine AW_region ?_ | refine wx mixed ?_ | refine AW_block ?_ | refine AW_skip ?_ | refine AW_exit ?_ | refine AW_ret ?_)
        refine AWk_op (callS0 rfl rfl Checks_spec rfl rfl rfl) rfl ?_
        refine AWk_op (callS1 rfl rfl hone [0] (by decide) rfl rfl rfl (lowH_psr 0 _ _) (lowH_psr 0 _ _) rfl rfl) rfl ?_
        repeat (first | refine wk hT rfl rfl ?_ | refine wd hT rfl rfl rfl ?_ | refine wz hT rfl ?_ | refine AWd_nil ?_ | refine AWk_nil ?_ | refine wh hT rfl rfl rfl rfl ?_ | refine wg hT rfl rfl rfl rfl rfl ?_ | refine AW_seq ?_ | refine AW_region ?_ | refine wx mixed ?_ | refine AW_block ?_ | refine AW_skip ?_ | refine AW_exit ?_ | refine AW_ret ?_)
        refine AWk_op (callS1 rfl rfl his3 [0] (by decide) rfl rfl rfl (lowH_psr 0 _ _) (lowH_psr 0 _ _) rfl rfl) rfl ?_
        repeat (first | refine wk hT rfl rfl ?_ | refine wd hT rfl rfl rfl ?_ | refine wz hT rfl ?_ | refine AWd_nil ?_ | refine AWk_nil ?_ | refine wh hT rfl rfl rfl rfl ?_ | refine wg hT rfl rfl rfl rfl rfl ?_ | refine AW_seq ?_ | refine AW_region ?_ | refine wx mixed ?_ | refine AW_block ?_ | refine AW_skip ?_ | refine AW_exit ?_ | refine AW_ret ?_)
        refine AW_condL rfl (fun hb => ?_) (fun hb => ?_)
        · subst hb
          rw [if_pos rfl]
          repeat (first | refine wk hT rfl rfl ?_ | refine wd hT rfl rfl rfl ?_ | refine wz hT rfl ?_ | refine AWd_nil ?_ | refine AWk_nil ?_ | refine wh hT rfl rfl rfl rfl ?_ | refine wg hT rfl rfl rfl rfl rfl ?_ | refine AW_seq ?_ | refine AW_region ?_ | refine wx mixed ?_ | refine AW_block ?_ | refine AW_skip ?_ | refine AW_exit ?_ | refine AW_ret ?_)
          refine AWk_op (callS0 rfl rfl Values_spec rfl rfl rfl) rfl ?_
          refine AWk_op (callS1 rfl rfl hone2 [0] (by decide) rfl rfl rfl (lowH_psr 0 _ _) (lowH_psr 0 _ _) rfl rfl) rfl ?_
          repeat (first | refine wk hT rfl rfl ?_ | refine wd hT rfl rfl rfl ?_ | refine wz hT rfl ?_ | refine AWd_nil ?_ | refine AWk_nil ?_ | refine wh hT rfl rfl rfl rfl ?_ | refine wg hT rfl rfl rfl rfl rfl ?_ | refine AW_seq ?_ | refine AW_region ?_ | refine wx mixed ?_ | refine AW_block ?_ | refine AW_skip ?_ | refine AW_exit ?_ | refine AW_ret ?_)
          exact ret_exact (r := cAV (.mk 1 n1 n3 [])) rfl (AV.le.agg ⟨.refl _, .refl _, .refl _, AV.le.dat, trivial⟩) rfl rfl rfl (lowH_psr _ _ _) ⟨rfl, rfl⟩
        · subst hb
          rw [if_neg (by simp)]
          repeat (first | refine wk hT rfl rfl ?_ | refine wd hT rfl rfl rfl ?_ | refine wz hT rfl ?_ | refine AWd_nil ?_ | refine AWk_nil ?_ | refine wh hT rfl rfl rfl rfl ?_ | refine wg hT rfl rfl rfl rfl rfl ?_ | refine AW_seq ?_ | refine AW_region ?_ | refine wx mixed ?_ | refine AW_block ?_ | refine AW_skip ?_ | refine AW_exit ?_ | refine AW_ret ?_)
          exact ret_exact (r := cAV (.mk 1 n1 1 [])) rfl (AV.le.agg ⟨.refl _, .refl _, .refl _, AV.le.dat, trivial⟩) rfl rfl rfl (lowH_psr _ _ _) ⟨rfl, rfl⟩
end Tdoc
/- Package policy: which conditions are valid. -/
set_option linter.unusedVariables false
set_option linter.unusedSimpArgs false
namespace Tdoc
open Go Go.Proofs

mutual
def smallC : Cond → Prop
  | .mk _ _ _ kids => kids.length ≤ 1000000000 ∧ smallCs kids
def smallCs : List Cond → Prop
  | [] => True
  | a :: l => smallC a ∧ smallCs l
end

theorem smallCs_at : ∀ {l : List Cond}, smallCs l → ∀ c, c ∈ l → smallC c
  | [], _, c, hc => by cases hc
  | a :: l, h, c, hc => by
    cases hc with
    | head => exact h.1
    | tail _ hc => exact smallCs_at h.2 c hc
theorem smallCs_append : ∀ {a b : List Cond}, smallCs a → smallCs b → smallCs (a ++ b)
  | [], _, _, h => h
  | x :: a, b, h1, h2 => ⟨h1.1, smallCs_append h1.2 h2⟩

/-- The index of the first that p takes, or -1. -/
def fIdx {α : Type} (p : α → Bool) (l : List α) : Int := match l.findIdx? p with
  | some i => i
  | none => -1
theorem fIdx_at {α : Type} {p : α → Bool} {l : List α} {k : Nat} (hk : k < l.length) (h : p l[k] = true) (hb : ∀ j, (hj : j < k) → (hj2 : j < l.length) → p l[j] = false) : fIdx p l = k := by
  unfold fIdx
  have : l.findIdx? p = some k := by
    rw [List.findIdx?_eq_some_iff_getElem]
    exact ⟨hk, h, fun j hj => by simpa using hb j hj (by omega)⟩
  rw [this]
theorem fIdx_none {α : Type} {p : α → Bool} {l : List α} (hb : ∀ j, (hj : j < l.length) → p l[j] = false) : fIdx p l = -1 := by
  unfold fIdx
  have : l.findIdx? p = none := by
    rw [List.findIdx?_eq_none_iff]
    intro x hx
    obtain ⟨j, hj, rfl⟩ := List.mem_iff_getElem.1 hx
    simpa using hb j hj
  rw [this]
theorem fIdx_any {α : Type} (p : α → Bool) (l : List α) : decide (fIdx p l ≥ 0) = l.any p := by
  unfold fIdx
  split
  · rename_i i h
    obtain ⟨h1, h2, _⟩ := List.findIdx?_eq_some_iff_getElem.1 h
    have : l.any p = true := List.any_eq_true.2 ⟨_, List.getElem_mem h1, h2⟩
    rw [this]; simp
  · rename_i h
    rw [List.findIdx?_eq_none_iff] at h
    have : l.any p = false := by rw [List.any_eq_false]; intro x hx; simpa using h x hx
    rw [this]; decide

/-- The contract of a predicate on conditions. -/
def PredC (g : FuncId) (first cap : List AV) (H : List AObj) (p : Cond → Bool) (l : List Cond) : Prop :=
  ∀ c, c ∈ l → Spec Try.prog g (first ++ ([cAV c] ++ cap)) H (fun r h' => r = .d (.bool (p c)) ∧ h' = H)

set_option maxRecDepth 100000 in
theorem IndexFuncC_spec {kids : List Cond} {g : FuncId} {first cap : List AV} {H : List AObj} {p : Cond → Bool} (hp : PredC g first cap H p kids) (hH : lowH H.length H = true) (h1 : lowL H.length first = true) (h2 : lowL H.length cap = true) (hl : kids.length ≤ 1000000000) :
    Spec Try.prog 52 [.d (.sl 4 (encCs kids)), .fn (.func g) first cap] H (fun r h' => r = .d (.int .i64 (fIdx p kids)) ∧ h' = H) := by
  refine Spec_of_body hT Try.func52 rfl rfl rfl rfl ?_
  intro E hE
  have hlen := encCs_length kids
  repeat (first | refine wk hT rfl rfl ?_ | refine wd hT rfl rfl rfl ?_ | refine wz hT rfl ?_ | refine AWd_nil ?_ | refine AWk_nil ?_ | refine wh hT rfl rfl rfl rfl ?_ | refine wg hT rfl rfl rfl rfl rfl ?_ | refine AW_seq ?_ | refine AW_region ?_ | refine wx mixed ?_ | refine AW_block ?_ | refine AW_skip ?_ | refine AW_exit ?_ | refine AW_ret ?_)
  refine AW_loopL (ι := Nat) (fun k => [(0, .d (.sl 4 (encCs kids))), (1, .fn (.func g) first cap), (7, .d (.int .i64 (encCs kids).length)), (8, .d (.int .i64 k))]) (fun _ => H) (fun k => k ≤ kids.length ∧ ∀ j, (hj : j < k) → (hj2 : j < kids.length) → p kids[j] = false) (fun k => kids.length - k) 0
    ⟨by omega, fun j hj => by omega⟩ ⟨.refl _, .refl _, .refl _, .refl _, trivial⟩ (HLe.refl _) ?_
  intro k ⟨hk, hb⟩
  repeat (first | refine wk hT rfl rfl ?_ | refine wd hT rfl rfl rfl ?_ | refine wz hT rfl ?_ | refine AWd_nil ?_ | refine AWk_nil ?_ | refine wh hT rfl rfl rfl rfl ?_ | refine wg hT rfl rfl rfl rfl rfl ?_ | refine AW_seq ?_ | refine AW_region ?_ | refine wx mixed ?_ | refine AW_block ?_ | refine AW_skip ?_ | refine AW_exit ?_ | refine AW_ret ?_)
  refine AW_condL rfl (fun h1' => ?_) (fun h1' => ?_)
  · have hlt : k < kids.length := by rw [hlen] at h1'; simpa using h1'
    have hel : (encCs kids)[((k : Int)).toNat]? = some (encC kids[k]) := by simp [encCs_eq, hlt]
    have hpk := hp kids[k] (List.getElem_mem hlt)
    generalize hc : kids[k] = c at hel hpk
    obtain ⟨ck, cc, cv, ckids⟩ := c
    repeat (first | refine wk hT rfl rfl ?_ | refine wd hT rfl rfl rfl ?_ | refine wz hT rfl ?_ | refine AWd_nil ?_ | refine AWk_nil ?_ | refine wh hT rfl rfl rfl rfl ?_ | refine wg hT rfl rfl rfl rfl rfl ?_ | refine AW_seq ?_ | refine AW_region ?_ | refine wx mixed ?_ | refine AW_block ?_ | refine AW_skip ?_ | refine AW_exit ?_ | refine AW_ret ?_)
    refine AWk_op (OpS_of_pure (indexAddr_ok hT rfl rfl rfl rfl (by omega) hel)) rfl ?_
    repeat (first | refine wk hT rfl rfl ?_ | refine wd hT rfl rfl rfl ?_ | refine wz hT rfl ?_ | refine AWd_nil ?_ | refine AWk_nil ?_ | refine wh hT rfl rfl rfl rfl ?_ | refine wg hT rfl rfl rfl rfl rfl ?_ | refine AW_seq ?_ | refine AW_region ?_ | refine wx mixed ?_ | refine AW_block ?_ | refine AW_skip ?_ | refine AW_exit ?_ | refine AW_ret ?_)
    refine AWk_opR (callSame (Q := fun r h' => r = .d (.bool (p (.mk ck cc cv ckids))) ∧ h' = H) rfl rfl (hpk.mono (fun r h' ⟨q1, q2⟩ => ⟨⟨q1, q2⟩, by rw [q1]; rfl, by rw [q2]; exact hH⟩)) hH rfl ?_) rfl ?_
    · have : ∀ (a b : List AV), lowL H.length a = true → lowL H.length b = true → lowL H.length (a ++ b) = true := by
        intro a
        induction a with
        | nil => intro b _ hb; exact hb
        | cons x a ih => intro b ha hb; simp only [lowL, Bool.and_eq_true, List.cons_append] at ha ⊢; exact ⟨ha.1, ih b ha.2 hb⟩
      exact this _ _ h1 (this [_] _ (by simp [lowL, low_cAV]) h2)
    rintro v h' ⟨rfl, rfl⟩
    repeat (first | refine wk hT rfl rfl ?_ | refine wd hT rfl rfl rfl ?_ | refine wz hT rfl ?_ | refine AWd_nil ?_ | refine AWk_nil ?_ | refine wh hT rfl rfl rfl rfl ?_ | refine wg hT rfl rfl rfl rfl rfl ?_ | refine AW_seq ?_ | refine AW_region ?_ | refine wx mixed ?_ | refine AW_block ?_ | refine AW_skip ?_ | refine AW_exit ?_ | refine AW_ret ?_)
    refine AW_condL rfl (fun h2' => ?_) (fun h2' => ?_)
    · repeat (first | refine wk hT rfl rfl ?_ | refine wd hT rfl rfl rfl ?_ | refine wz hT rfl ?_ | refine AWd_nil ?_ | refine AWk_nil ?_ | refine wh hT rfl rfl rfl rfl ?_ | refine wg hT rfl rfl rfl rfl rfl ?_ | refine AW_seq ?_ | refine AW_region ?_ | refine wx mixed ?_ | refine AW_block ?_ | refine AW_skip ?_ | refine AW_exit ?_ | refine AW_ret ?_)
      refine ret_exact rfl (.refl _) (by simp) rfl rfl hH ⟨?_, rfl⟩
      show AV.d (.int .i64 (k : Int)) = _
      rw [fIdx_at hlt (by rw [hc]; exact h2') (fun j hj hj2 => hb j hj hj2)]
    · repeat (first | refine wk hT rfl rfl ?_ | refine wd hT rfl rfl rfl ?_ | refine wz hT rfl ?_ | refine AWd_nil ?_ | refine AWk_nil ?_ | refine wh hT rfl rfl rfl rfl ?_ | refine wg hT rfl rfl rfl rfl rfl ?_ | refine AW_seq ?_ | refine AW_region ?_ | refine wx mixed ?_ | refine AW_block ?_ | refine AW_skip ?_ | refine AW_exit ?_ | refine AW_ret ?_)
      refine ⟨k + 1, ⟨by omega, fun j hj hj2 => ?_⟩, by omega, ⟨.refl _, .refl _, .refl _, AV.le.eq ?_, trivial⟩, HLe.refl _⟩
      · by_cases hjk : j = k
        · subst hjk; rw [hc]; exact h2'
        · exact hb j (by omega) hj2
      · show AV.d (.int .i64 (IntKind.i64.wrap ((k : Int) + 1))) = _
        rw [wrap_id (by omega)]; rfl
  · have hge : k = kids.length := by rw [hlen] at h1'; simp at h1'; omega
    repeat (first | refine wk hT rfl rfl ?_ | refine wd hT rfl rfl rfl ?_ | refine wz hT rfl ?_ | refine AWd_nil ?_ | refine AWk_nil ?_ | refine wh hT rfl rfl rfl rfl ?_ | refine wg hT rfl rfl rfl rfl rfl ?_ | refine AW_seq ?_ | refine AW_region ?_ | refine wx mixed ?_ | refine AW_block ?_ | refine AW_skip ?_ | refine AW_exit ?_ | refine AW_ret ?_)
    refine ret_exact rfl (.refl _) (by simp) rfl rfl hH ⟨?_, rfl⟩
    show AV.d (.int .i64 (-1)) = _
    rw [fIdx_none (fun j hj => hb j (by omega) hj)]

set_option maxRecDepth 100000 in
theorem ContainsFuncC_spec {kids : List Cond} {g : FuncId} {first cap : List AV} {H : List AObj} {p : Cond → Bool} (hp : PredC g first cap H p kids) (hH : lowH H.length H = true) (h1 : lowL H.length first = true) (h2 : lowL H.length cap = true) (hl : kids.length ≤ 1000000000) :
    Spec Try.prog 39 [.d (.sl 4 (encCs kids)), .fn (.func g) first cap] H (fun r h' => r = .d (.bool (kids.any p)) ∧ h' = H) := by
  refine Spec_of_body hT Try.func39 rfl rfl rfl rfl ?_
  intro E hE
  have hs := IndexFuncC_spec hp hH h1 h2 hl
  repeat (first | refine wk hT rfl rfl ?_ | refine wd hT rfl rfl rfl ?_ | refine wz hT rfl ?_ | refine AWd_nil ?_ | refine AWk_nil ?_ | refine wh hT rfl rfl rfl rfl ?_ | refine wg hT rfl rfl rfl rfl rfl ?_ | refine AW_seq ?_ | refine AW_region ?_ | refine wx mixed ?_ | refine AW_block ?_ | refine AW_skip ?_ | refine AW_exit ?_ | refine AW_ret ?_)
  refine AWk_opR (callSame (Q := fun r h' => r = .d (.int .i64 (fIdx p kids)) ∧ h' = H) rfl rfl (hs.mono (fun r h' ⟨q1, q2⟩ => ⟨⟨q1, q2⟩, by rw [q1]; rfl, by rw [q2]; exact hH⟩)) hH rfl ?_) rfl ?_
  · simp [lowL, low, h1, h2]
  rintro v h' ⟨rfl, rfl⟩
  repeat (first | refine wk hT rfl rfl ?_ | refine wd hT rfl rfl rfl ?_ | refine wz hT rfl ?_ | refine AWd_nil ?_ | refine AWk_nil ?_ | refine wh hT rfl rfl rfl rfl ?_ | refine wg hT rfl rfl rfl rfl rfl ?_ | refine AW_seq ?_ | refine AW_region ?_ | refine wx mixed ?_ | refine AW_block ?_ | refine AW_skip ?_ | refine AW_exit ?_ | refine AW_ret ?_)
  refine ret_exact rfl (.refl _) (by simp) rfl rfl hH ⟨?_, rfl⟩
  show AV.d (.bool (decide (fIdx p kids ≥ 0))) = _
  rw [fIdx_any]

def kindC : Cond → Int
  | .mk k _ _ _ => k

def validC : Nat → Cond → Bool
  | 0, _ => false
  | d + 1, .mk k c v kids =>
    if k = 1 then decide (1 ≤ c) && decide (c ≤ 13) && decide (1 ≤ v) && decide (v ≤ 4) && decide (kids.length = 0)
    else if c ≠ 0 ∨ v ≠ 0 then false
    else if k = 2 then decide (kids.length = 1) && !(kids.any fun x => !validC d x)
    else if k = 3 ∨ k = 4 then !(decide (kids.length < 2) || kids.any fun x => kindC x == k) && !(kids.any fun x => !validC d x)
    else false

set_option maxRecDepth 100000 in
theorem valid1_spec (c x : Cond) : Spec Try.prog 40 ([] ++ ([cAV x] ++ [.ptr 0 0])) [.row ((encC c).map .d)] (fun r h' => r = .d (.bool (kindC x == kindC c)) ∧ h' = [.row ((encC c).map .d)]) := by
  obtain ⟨k, cc, cv, kids⟩ := c
  obtain ⟨k2, cc2, cv2, kids2⟩ := x
  refine Spec_of_body hT Try.func40 rfl rfl rfl rfl ?_
  intro E hE
  repeat (first | refine wk hT rfl rfl ?_ | refine wd hT rfl rfl rfl ?_ | refine wz hT rfl ?_ | refine AWd_nil ?_ | refine AWk_nil ?_ | refine wh hT rfl rfl rfl rfl ?_ | refine wg hT rfl rfl rfl rfl rfl ?_ | refine AW_seq ?_ | refine AW_region ?_ | refine wx mixed ?_ | refine AW_block ?_ | refine AW_skip ?_ | refine AW_exit ?_ | refine AW_ret ?_)
  exact ret_exact rfl (.refl _) rfl rfl rfl rfl ⟨rfl, rfl⟩

set_option maxRecDepth 100000 in
theorem valid_spec : ∀ (d : Nat) (c : Cond), d ≤ 1000 → smallC c → Spec Try.prog 23 [cAV c, .d (.int .i64 d)] [] (fun r h' => r = .d (.bool (validC d c)) ∧ h' = [])
  | 0, .mk k c v kids, hd, hs => by
    refine Spec_of_body hT Try.func23 rfl rfl rfl rfl ?_
    intro E hE
    repeat (first | refine wk hT rfl rfl ?_ | refine wd hT rfl rfl rfl ?_ | refine wz hT rfl ?_ | refine AWd_nil ?_ | refine AWk_nil ?_ | refine wh hT rfl rfl rfl rfl ?_ | refine wg hT rfl rfl rfl rfl rfl ?_ | refine AW_seq ?_ | refine AW_region ?_ | refine wx mixed ?_ | refine AW_block ?_ | refine AW_skip ?_ | refine AW_exit ?_ | refine AW_ret ?_)
    refine AW_condL rfl (fun _ => ?_) (fun hf => by simp at hf)
    repeat (first | refine wk hT rfl rfl ?_ | refine wd hT rfl rfl rfl ?_ | refine wz hT rfl ?_ | refine AWd_nil ?_ | refine AWk_nil ?_ | refine wh hT rfl rfl rfl rfl ?_ | refine wg hT rfl rfl rfl rfl rfl ?_ | refine AW_seq ?_ | refine AW_region ?_ | refine wx mixed ?_ | refine AW_block ?_ | refine AW_skip ?_ | refine AW_exit ?_ | refine AW_ret ?_)
    exact ret_exact rfl (.refl _) rfl rfl rfl rfl ⟨rfl, rfl⟩
  | d + 1, .mk k c v kids, hd, hs => by
    have h2 : ∀ x, x ∈ kids → Spec Try.prog 41 ([] ++ ([cAV x] ++ [.ptr 0 0])) [.row [.d (.int .i64 ((d + 1 : Nat) : Int))]] (fun r h' => r = .d (.bool (!validC d x)) ∧ h' = [.row [.d (.int .i64 ((d + 1 : Nat) : Int))]]) := by
      intro x hx
      have ih := valid_spec d x (by omega) (smallCs_at hs.2 x hx)
      obtain ⟨k2, cc2, cv2, kids2⟩ := x
      refine Spec_of_body hT Try.func41 rfl rfl rfl rfl ?_
      intro E hE
      have hw : IntKind.i64.wrap (((d + 1 : Nat) : Int) - 1) = (d : Int) := by rw [wrap_id (by omega)]; omega
      repeat (first | refine wk hT rfl rfl ?_ | refine wd hT rfl rfl rfl ?_ | refine wz hT rfl ?_ | refine AWd_nil ?_ | refine AWk_nil ?_ | refine wh hT rfl rfl rfl rfl ?_ | refine wg hT rfl rfl rfl rfl rfl ?_ | refine AW_seq ?_ | refine AW_region ?_ | refine wx mixed ?_ | refine AW_block ?_ | refine AW_skip ?_ | refine AW_exit ?_ | refine AW_ret ?_)
      rw [hw]
      refine AWk_op (callS0 rfl rfl ih rfl rfl rfl) rfl ?_
      repeat (first | refine wk hT rfl rfl ?_ | refine wd hT rfl rfl rfl ?_ | refine wz hT rfl ?_ | refine AWd_nil ?_ | refine AWk_nil ?_ | refine wh hT rfl rfl rfl rfl ?_ | refine wg hT rfl rfl rfl rfl rfl ?_ | refine AW_seq ?_ | refine AW_region ?_ | refine wx mixed ?_ | refine AW_block ?_ | refine AW_skip ?_ | refine AW_exit ?_ | refine AW_ret ?_)
      exact ret_exact rfl (.refl _) rfl rfl rfl rfl ⟨rfl, rfl⟩
    have c1 := ContainsFuncC_spec (p := fun x => kindC x == k) (kids := kids) (fun x hx => valid1_spec (.mk k c v kids) x) rfl rfl rfl hs.1
    have c2 := ContainsFuncC_spec (p := fun x => !validC d x) h2 rfl rfl rfl hs.1
    refine Spec_of_body hT Try.func23 rfl rfl rfl rfl ?_
    intro E hE
    have hlen := encCs_length kids
    repeat (first | refine wk hT rfl rfl ?_ | refine wd hT rfl rfl rfl ?_ | refine wz hT rfl ?_ | refine AWd_nil ?_ | refine AWk_nil ?_ | refine wh hT rfl rfl rfl rfl ?_ | refine wg hT rfl rfl rfl rfl rfl ?_ | refine AW_seq ?_ | refine AW_region ?_ | refine wx mixed ?_ | refine AW_block ?_ | refine AW_skip ?_ | refine AW_exit ?_ | refine AW_ret ?_)
    have hz0 : (((encCs kids).length : Int) == 0) = decide (kids.length = 0) := by rw [hlen, Bool.eq_iff_iff]; simp
    refine AW_condL rfl (fun hf => by simp at hf; omega) (fun _ => ?_)
    repeat (first | refine wk hT rfl rfl ?_ | refine wd hT rfl rfl rfl ?_ | refine wz hT rfl ?_ | refine AWd_nil ?_ | refine AWk_nil ?_ | refine wh hT rfl rfl rfl rfl ?_ | refine wg hT rfl rfl rfl rfl rfl ?_ | refine AW_seq ?_ | refine AW_region ?_ | refine wx mixed ?_ | refine AW_block ?_ | refine AW_skip ?_ | refine AW_exit ?_ | refine AW_ret ?_)
    refine AW_condL rfl (fun hk => ?_) (fun hk => ?_)
    · have hk' : k = 1 := by simpa using hk
      repeat (first | refine wk hT rfl rfl ?_ | refine wd hT rfl rfl rfl ?_ | refine wz hT rfl ?_ | refine AWd_nil ?_ | refine AWk_nil ?_ | refine wh hT rfl rfl rfl rfl ?_ | refine wg hT rfl rfl rfl rfl rfl ?_ | refine AW_seq ?_ | refine AW_region ?_ | refine wx mixed ?_ | refine AW_block ?_ | refine AW_skip ?_ | refine AW_exit ?_ | refine AW_ret ?_)
      refine ret_exact rfl (.refl _) rfl rfl rfl rfl ⟨congrArg (fun b => AV.d (.bool b)) ?_, rfl⟩
      rw [validC, if_pos hk', ← hz0]
    · have hk1 : ¬ k = 1 := by simpa using hk
      repeat (first | refine wk hT rfl rfl ?_ | refine wd hT rfl rfl rfl ?_ | refine wz hT rfl ?_ | refine AWd_nil ?_ | refine AWk_nil ?_ | refine wh hT rfl rfl rfl rfl ?_ | refine wg hT rfl rfl rfl rfl rfl ?_ | refine AW_seq ?_ | refine AW_region ?_ | refine wx mixed ?_ | refine AW_block ?_ | refine AW_skip ?_ | refine AW_exit ?_ | refine AW_ret ?_)
      refine AW_condL rfl (fun hz => ?_) (fun hz => ?_)
      · have hz' : c ≠ 0 ∨ v ≠ 0 := by simpa using hz
        repeat (first | refine wk hT rfl rfl ?_ | refine wd hT rfl rfl rfl ?_ | refine wz hT rfl ?_ | refine AWd_nil ?_ | refine AWk_nil ?_ | refine wh hT rfl rfl rfl rfl ?_ | refine wg hT rfl rfl rfl rfl rfl ?_ | refine AW_seq ?_ | refine AW_region ?_ | refine wx mixed ?_ | refine AW_block ?_ | refine AW_skip ?_ | refine AW_exit ?_ | refine AW_ret ?_)
        refine ret_exact rfl (.refl _) rfl rfl rfl rfl ⟨congrArg (fun b => AV.d (.bool b)) ?_, rfl⟩
        rw [validC, if_neg hk1, if_pos hz']
      · have hz' : ¬ (c ≠ 0 ∨ v ≠ 0) := by simpa using hz
        repeat (first | refine wk hT rfl rfl ?_ | refine wd hT rfl rfl rfl ?_ | refine wz hT rfl ?_ | refine AWd_nil ?_ | refine AWk_nil ?_ | refine wh hT rfl rfl rfl rfl ?_ | refine wg hT rfl rfl rfl rfl rfl ?_ | refine AW_seq ?_ | refine AW_region ?_ | refine wx mixed ?_ | refine AW_block ?_ | refine AW_skip ?_ | refine AW_exit ?_ | refine AW_ret ?_)
        refine AW_condL rfl (fun h3 => ?_) (fun h3 => ?_)
        · have hk2 : k = 2 := by simpa using h3
          repeat (first | refine wk hT rfl rfl ?_ | refine wd hT rfl rfl rfl ?_ | refine wz hT rfl ?_ | refine AWd_nil ?_ | refine AWk_nil ?_ | refine wh hT rfl rfl rfl rfl ?_ | refine wg hT rfl rfl rfl rfl rfl ?_ | refine AW_seq ?_ | refine AW_region ?_ | refine wx mixed ?_ | refine AW_block ?_ | refine AW_skip ?_ | refine AW_exit ?_ | refine AW_ret ?_)
          refine AW_condL rfl (fun h4 => ?_) (fun h4 => ?_)
          · have h4' : ¬ kids.length = 1 := by rw [hlen] at h4; simp at h4; omega
            repeat (first | refine wk hT rfl rfl ?_ | refine wd hT rfl rfl rfl ?_ | refine wz hT rfl ?_ | refine AWd_nil ?_ | refine AWk_nil ?_ | refine wh hT rfl rfl rfl rfl ?_ | refine wg hT rfl rfl rfl rfl rfl ?_ | refine AW_seq ?_ | refine AW_region ?_ | refine wx mixed ?_ | refine AW_block ?_ | refine AW_skip ?_ | refine AW_exit ?_ | refine AW_ret ?_)
            refine ret_exact rfl (.refl _) rfl rfl rfl rfl ⟨congrArg (fun b => AV.d (.bool b)) ?_, rfl⟩
            rw [validC, if_neg hk1, if_neg hz', if_pos hk2]; simp [h4']
          · have h4' : kids.length = 1 := by rw [hlen] at h4; simp at h4; omega
            repeat (first | refine wk hT rfl rfl ?_ | refine wd hT rfl rfl rfl ?_ | refine wz hT rfl ?_ | refine AWd_nil ?_ | refine AWk_nil ?_ | refine wh hT rfl rfl rfl rfl ?_ | refine wg hT rfl rfl rfl rfl rfl ?_ | refine AW_seq ?_ | refine AW_region ?_ | refine wx mixed ?_ | refine AW_block ?_ | refine AW_skip ?_ | refine AW_exit ?_ | refine AW_ret ?_)
            refine AWk_op (callS1 rfl rfl c2 [1] (by decide) rfl rfl rfl rfl rfl rfl rfl) rfl ?_
            repeat (first | refine wk hT rfl rfl ?_ | refine wd hT rfl rfl rfl ?_ | refine wz hT rfl ?_ | refine AWd_nil ?_ | refine AWk_nil ?_ | refine wh hT rfl rfl rfl rfl ?_ | refine wg hT rfl rfl rfl rfl rfl ?_ | refine AW_seq ?_ | refine AW_region ?_ | refine wx mixed ?_ | refine AW_block ?_ | refine AW_skip ?_ | refine AW_exit ?_ | refine AW_ret ?_)
            refine ret_exact rfl (.refl _) rfl rfl rfl rfl ⟨congrArg (fun b => AV.d (.bool b)) ?_, rfl⟩
            rw [validC, if_neg hk1, if_neg hz', if_pos hk2]; simp [h4']
        · have hk2 : ¬ k = 2 := by simpa using h3
          have hl2 : decide (((encCs kids).length : Int) < 2) = decide (kids.length < 2) := by rw [hlen, Bool.eq_iff_iff]; simp; omega
          repeat (first | refine wk hT rfl rfl ?_ | refine wd hT rfl rfl rfl ?_ | refine wz hT rfl ?_ | refine AWd_nil ?_ | refine AWk_nil ?_ | refine wh hT rfl rfl rfl rfl ?_ | refine wg hT rfl rfl rfl rfl rfl ?_ | refine AW_seq ?_ | refine AW_region ?_ | refine wx mixed ?_ | refine AW_block ?_ | refine AW_skip ?_ | refine AW_exit ?_ | refine AW_ret ?_)
          by_cases hk3 : k = 3
          · have hk34 : k = 3 ∨ k = 4 := .inl hk3
            refine AW_condL rfl (fun _ => ?_) (fun hf => by simp [hk3] at hf)
            repeat (first | refine wk hT rfl rfl ?_ | refine wd hT rfl rfl rfl ?_ | refine wz hT rfl ?_ | refine AWd_nil ?_ | refine AWk_nil ?_ | refine wh hT rfl rfl rfl rfl ?_ | refine wg hT rfl rfl rfl rfl rfl ?_ | refine AW_seq ?_ | refine AW_region ?_ | refine wx mixed ?_ | refine AW_block ?_ | refine AW_skip ?_ | refine AW_exit ?_ | refine AW_ret ?_)
            refine AW_condL rfl (fun _ => ?_) (fun hf => by simp [hk3] at hf)
            repeat (first | refine wk hT rfl rfl ?_ | refine wd hT rfl rfl rfl ?_ | refine wz hT rfl ?_ | refine AWd_nil ?_ | refine AWk_nil ?_ | refine wh hT rfl rfl rfl rfl ?_ | refine wg hT rfl rfl rfl rfl rfl ?_ | refine AW_seq ?_ | refine AW_region ?_ | refine wx mixed ?_ | refine AW_block ?_ | refine AW_skip ?_ | refine AW_exit ?_ | refine AW_ret ?_)
            refine AWk_gop rfl rfl rfl (fun hg => ⟨by first | exact True.intro | exact ⟨hg, hg, True.intro⟩, callS1 rfl rfl c1 [0] (by decide) rfl rfl rfl rfl rfl rfl rfl⟩) ?_
            repeat (first | refine wk hT rfl rfl ?_ | refine wd hT rfl rfl rfl ?_ | refine wz hT rfl ?_ | refine AWd_nil ?_ | refine AWk_nil ?_ | refine wh hT rfl rfl rfl rfl ?_ | refine wg hT rfl rfl rfl rfl rfl ?_ | refine AW_seq ?_ | refine AW_region ?_ | refine wx mixed ?_ | refine AW_block ?_ | refine AW_skip ?_ | refine AW_exit ?_ | refine AW_ret ?_)
            refine AW_condL rfl (fun h5 => ?_) (fun h5 => ?_)
            · repeat (first | refine wk hT rfl rfl ?_ | refine wd hT rfl rfl rfl ?_ | refine wz hT rfl ?_ | refine AWd_nil ?_ | refine AWk_nil ?_ | refine wh hT rfl rfl rfl rfl ?_ | refine wg hT rfl rfl rfl rfl rfl ?_ | refine AW_seq ?_ | refine AW_region ?_ | refine wx mixed ?_ | refine AW_block ?_ | refine AW_skip ?_ | refine AW_exit ?_ | refine AW_ret ?_)
              refine ret_exact rfl (.refl _) rfl rfl rfl rfl ⟨congrArg (fun b => AV.d (.bool b)) ?_, rfl⟩
              rw [validC, if_neg hk1, if_neg hz', if_neg hk2, if_pos hk34, ← hl2, h5]; rfl
            · repeat (first | refine wk hT rfl rfl ?_ | refine wd hT rfl rfl rfl ?_ | refine wz hT rfl ?_ | refine AWd_nil ?_ | refine AWk_nil ?_ | refine wh hT rfl rfl rfl rfl ?_ | refine wg hT rfl rfl rfl rfl rfl ?_ | refine AW_seq ?_ | refine AW_region ?_ | refine wx mixed ?_ | refine AW_block ?_ | refine AW_skip ?_ | refine AW_exit ?_ | refine AW_ret ?_)
              refine AWk_op (callS1 rfl rfl c2 [1] (by decide) rfl rfl rfl rfl rfl rfl rfl) rfl ?_
              repeat (first | refine wk hT rfl rfl ?_ | refine wd hT rfl rfl rfl ?_ | refine wz hT rfl ?_ | refine AWd_nil ?_ | refine AWk_nil ?_ | refine wh hT rfl rfl rfl rfl ?_ | refine wg hT rfl rfl rfl rfl rfl ?_ | refine AW_seq ?_ | refine AW_region ?_ | refine wx mixed ?_ | refine AW_block ?_ | refine AW_skip ?_ | refine AW_exit ?_ | refine AW_ret ?_)
              refine ret_exact rfl (.refl _) rfl rfl rfl rfl ⟨congrArg (fun b => AV.d (.bool b)) ?_, rfl⟩
              rw [validC, if_neg hk1, if_neg hz', if_neg hk2, if_pos hk34, ← hl2, h5]; rfl
          · refine AW_condL rfl (fun hf => by simp at hf; exact absurd hf hk3) (fun _ => ?_)
            repeat (first | refine wk hT rfl rfl ?_ | refine wd hT rfl rfl rfl ?_ | refine wz hT rfl ?_ | refine AWd_nil ?_ | refine AWk_nil ?_ | refine wh hT rfl rfl rfl rfl ?_ | refine wg hT rfl rfl rfl rfl rfl ?_ | refine AW_seq ?_ | refine AW_region ?_ | refine wx mixed ?_ | refine AW_block ?_ | refine AW_skip ?_ | refine AW_exit ?_ | refine AW_ret ?_)
            refine AW_condL rfl (fun h4 => ?_) (fun h4 => ?_)
            · have hk34 : k = 3 ∨ k = 4 := .inr (by simpa using h4)
              repeat (first | refine wk hT rfl rfl ?_ | refine wd hT rfl rfl rfl ?_ | refine wz hT rfl ?_ | refine AWd_nil ?_ | refine AWk_nil ?_ | refine wh hT rfl rfl rfl rfl ?_ | refine wg hT rfl rfl rfl rfl rfl ?_ | refine AW_seq ?_ | refine AW_region ?_ | refine wx mixed ?_ | refine AW_block ?_ | refine AW_skip ?_ | refine AW_exit ?_ | refine AW_ret ?_)
              refine AWk_gop rfl rfl rfl (fun hg => ⟨by first | exact True.intro | exact ⟨hg, hg, True.intro⟩, callS1 rfl rfl c1 [0] (by decide) rfl rfl rfl rfl rfl rfl rfl⟩) ?_
              repeat (first | refine wk hT rfl rfl ?_ | refine wd hT rfl rfl rfl ?_ | refine wz hT rfl ?_ | refine AWd_nil ?_ | refine AWk_nil ?_ | refine wh hT rfl rfl rfl rfl ?_ | refine wg hT rfl rfl rfl rfl rfl ?_ | refine AW_seq ?_ | refine AW_region ?_ | refine wx mixed ?_ | refine AW_block ?_ | refine AW_skip ?_ | refine AW_exit ?_ | refine AW_ret ?_)
              refine AW_condL rfl (fun h5 => ?_) (fun h5 => ?_)
              · repeat (first | refine wk hT rfl rfl ?_ | refine wd hT rfl rfl rfl ?_ | refine wz hT rfl ?_ | refine AWd_nil ?_ | refine AWk_nil ?_ | refine wh hT rfl rfl rfl rfl ?_ | refine wg hT rfl rfl rfl rfl rfl ?_ | refine AW_seq ?_ | refine AW_region ?_ | refine wx mixed ?_ | refine AW_block ?_ | refine AW_skip ?_ | refine AW_exit ?_ | refine AW_ret ?_)
                refine ret_exact rfl (.refl _) rfl rfl rfl rfl ⟨congrArg (fun b => AV.d (.bool b)) ?_, rfl⟩
                rw [validC, if_neg hk1, if_neg hz', if_neg hk2, if_pos hk34, ← hl2, h5]; rfl
              · repeat (first | refine wk hT rfl rfl ?_ | refine wd hT rfl rfl rfl ?_ | refine wz hT rfl ?_ | refine AWd_nil ?_ | refine AWk_nil ?_ | refine wh hT rfl rfl rfl rfl ?_ | refine wg hT rfl rfl rfl rfl rfl ?_ | refine AW_seq ?_ | refine AW_region ?_ | refine wx mixed ?_ | refine AW_block ?_ | refine AW_skip ?_ | refine AW_exit ?_ | refine AW_ret ?_)
                refine AWk_op (callS1 rfl rfl c2 [1] (by decide) rfl rfl rfl rfl rfl rfl rfl) rfl ?_
                repeat (first | refine wk hT rfl rfl ?_ | refine wd hT rfl rfl rfl ?_ | refine wz hT rfl ?_ | refine AWd_nil ?_ | refine AWk_nil ?_ | refine wh hT rfl rfl rfl rfl ?_ | refine wg hT rfl rfl rfl rfl rfl ?_ | refine AW_seq ?_ | refine AW_region ?_ | refine wx mixed ?_ | refine AW_block ?_ | refine AW_skip ?_ | refine AW_exit ?_ | refine AW_ret ?_)
                refine ret_exact rfl (.refl _) rfl rfl rfl rfl ⟨congrArg (fun b => AV.d (.bool b)) ?_, rfl⟩
                rw [validC, if_neg hk1, if_neg hz', if_neg hk2, if_pos hk34, ← hl2, h5]; rfl
            · have hk34 : ¬ (k = 3 ∨ k = 4) := by simp at h4; omega
              repeat (first | refine wk hT rfl rfl ?_ | refine wd hT rfl rfl rfl ?_ | refine wz hT rfl ?_ | refine AWd_nil ?_ | refine AWk_nil ?_ | refine wh hT rfl rfl rfl rfl ?_ | refine wg hT rfl rfl rfl rfl rfl ?_ | refine AW_seq ?_ | refine AW_region ?_ | refine wx mixed ?_ | refine AW_block ?_ | refine AW_skip ?_ | refine AW_exit ?_ | refine AW_ret ?_)
              refine ret_exact rfl (.refl _) rfl rfl rfl rfl ⟨congrArg (fun b => AV.d (.bool b)) ?_, rfl⟩
              rw [validC, if_neg hk1, if_neg hz', if_neg hk2, if_neg hk34]
end Tdoc
/- Package policy: which policies are valid. -/
set_option linter.unusedVariables false
set_option linter.unusedSimpArgs false
namespace Tdoc
open Go Go.Proofs

inductive Rule where
  | mk (v : Int) (al : Bool) (c : Cond)

def encR : Rule → List Dat
  | .mk v al (.mk k c w kids) => [.int .i64 v, .bool al, .int .i64 k, .int .i64 c, .int .i64 w, .sl 4 (encCs kids)]
def encRs (l : List Rule) : List (List Dat) := l.map encR
def polAV (l : List Rule) : AV := .agg [.d (.sl 6 (encRs l))]
def condR : Rule → Cond
  | .mk _ _ c => c

def ruleErr : Rule → Int
  | .mk v al (.mk k c w kids) => if v < 1 ∨ v > 3 then 61 else if al = true ∧ (k ≠ 0 ∨ c ≠ 0 ∨ w ≠ 0 ∨ 0 < kids.length) then 1 else if al = false ∧ validC 8 (.mk k c w kids) = false then 1 else 0
def firstErr : List Rule → Int
  | [] => 0
  | r :: l => if ruleErr r = 0 then firstErr l else ruleErr r
def validPol (l : List Rule) : Int := if l.length > 32 then 72 else firstErr l

set_option maxRecDepth 100000 in
theorem Valid_spec (l : List Rule) (hs : ∀ r, r ∈ l → smallC (condR r)) : Spec Try.prog 9 [polAV l] [] (fun r h' => r = .d (.int .i64 (validPol l)) ∧ h' = []) := by
  refine Spec_of_body hT Try.func9 rfl rfl rfl rfl ?_
  intro E hE
  have hlen : (encRs l).length = l.length := by simp [encRs]
  repeat (first | refine wk hT rfl rfl ?_ | refine wd hT rfl rfl rfl ?_ | refine wz hT rfl ?_ | refine AWd_nil ?_ | refine AWk_nil ?_ | refine wh hT rfl rfl rfl rfl ?_ | refine wg hT rfl rfl rfl rfl rfl ?_ | refine AW_seq ?_ | refine AW_region ?_ | refine wx mixed ?_ | refine AW_block ?_ | refine AW_skip ?_ | refine AW_exit ?_ | refine AW_ret ?_)
  refine AW_condL rfl (fun h1 => ?_) (fun h1 => ?_)
  · have h1' : l.length > 32 := by rw [hlen] at h1; simp at h1; omega
    repeat (first | refine wk hT rfl rfl ?_ | refine wd hT rfl rfl rfl ?_ | refine wz hT rfl ?_ | refine AWd_nil ?_ | refine AWk_nil ?_ | refine wh hT rfl rfl rfl rfl ?_ | refine wg hT rfl rfl rfl rfl rfl ?_ | refine AW_seq ?_ | refine AW_region ?_ | refine wx mixed ?_ | refine AW_block ?_ | refine AW_skip ?_ | refine AW_exit ?_ | refine AW_ret ?_)
    refine ret_exact rfl (.refl _) rfl rfl rfl rfl ⟨?_, rfl⟩
    rw [validPol, if_pos h1']; rfl
  · have h1' : ¬ l.length > 32 := by rw [hlen] at h1; simp at h1; omega
    rw [validPol, if_neg h1']
    repeat (first | refine wk hT rfl rfl ?_ | refine wd hT rfl rfl rfl ?_ | refine wz hT rfl ?_ | refine AWd_nil ?_ | refine AWk_nil ?_ | refine wh hT rfl rfl rfl rfl ?_ | refine wg hT rfl rfl rfl rfl rfl ?_ | refine AW_seq ?_ | refine AW_region ?_ | refine wx mixed ?_ | refine AW_block ?_ | refine AW_skip ?_ | refine AW_exit ?_ | refine AW_ret ?_)
    refine AW_loopC (ι := Nat) (fun k => [(1, .ptr 0 0), (10, .d (.sl 6 (encRs l))), (11, .d (.int .i64 (encRs l).length)), (12, .d (.int .i64 k))]) (fun _ => [.row [.d (.sl 6 (encRs l))]]) (fun k => k ≤ l.length ∧ firstErr (l.drop k) = firstErr l) (fun k => l.length - k) 0
      ⟨by omega, rfl⟩ ⟨.refl _, .refl _, .refl _, .refl _, trivial⟩ (HLe.refl _) ?_
    rintro k ⟨hk, hf⟩
    repeat (first | refine wk hT rfl rfl ?_ | refine wd hT rfl rfl rfl ?_ | refine wz hT rfl ?_ | refine AWd_nil ?_ | refine AWk_nil ?_ | refine wh hT rfl rfl rfl rfl ?_ | refine wg hT rfl rfl rfl rfl rfl ?_ | refine AW_seq ?_ | refine AW_region ?_ | refine wx mixed ?_ | refine AW_block ?_ | refine AW_skip ?_ | refine AW_exit ?_ | refine AW_ret ?_)
    refine AW_condL rfl (fun h2 => ?_) (fun h2 => ?_)
    · have hlt : k < l.length := by rw [hlen] at h2; simpa using h2
      have hel : (encRs l)[((k : Int)).toNat]? = some (encR l[k]) := by simp [encRs, hlt]
      have hd : l.drop k = l[k] :: l.drop (k + 1) := by simp
      rw [hd] at hf
      have hsm := hs l[k] (List.getElem_mem hlt)
      generalize l[k] = r at hel hf hsm
      obtain ⟨v, al, ⟨ck, cc, cv, kids⟩⟩ := r
      have hkl := encCs_length kids
      have hv := valid_spec 8 (.mk ck cc cv kids) (by omega) hsm
      rw [firstErr] at hf
      repeat (first | refine wk hT rfl rfl ?_ | refine wd hT rfl rfl rfl ?_ | refine wz hT rfl ?_ | refine AWd_nil ?_ | refine AWk_nil ?_ | refine wh hT rfl rfl rfl rfl ?_ | refine wg hT rfl rfl rfl rfl rfl ?_ | refine AW_seq ?_ | refine AW_region ?_ | refine wx mixed ?_ | refine AW_block ?_ | refine AW_skip ?_ | refine AW_exit ?_ | refine AW_ret ?_)
      refine AWk_op (OpS_of_pure (indexAddr_ok hT rfl rfl rfl rfl (by omega) hel)) rfl ?_
      repeat (first | refine wk hT rfl rfl ?_ | refine wd hT rfl rfl rfl ?_ | refine wz hT rfl ?_ | refine AWd_nil ?_ | refine AWk_nil ?_ | refine wh hT rfl rfl rfl rfl ?_ | refine wg hT rfl rfl rfl rfl rfl ?_ | refine AW_seq ?_ | refine AW_region ?_ | refine wx mixed ?_ | refine AW_block ?_ | refine AW_skip ?_ | refine AW_exit ?_ | refine AW_ret ?_)
      refine AW_condL rfl (fun h3 => ?_) (fun h3 => ?_)
      · have h3' : v < 1 ∨ v > 3 := by simpa using h3
        repeat (first | refine wk hT rfl rfl ?_ | refine wd hT rfl rfl rfl ?_ | refine wz hT rfl ?_ | refine AWd_nil ?_ | refine AWk_nil ?_ | refine wh hT rfl rfl rfl rfl ?_ | refine wg hT rfl rfl rfl rfl rfl ?_ | refine AW_seq ?_ | refine AW_region ?_ | refine wx mixed ?_ | refine AW_block ?_ | refine AW_skip ?_ | refine AW_exit ?_ | refine AW_ret ?_)
        refine ret_exact rfl (.refl _) rfl rfl rfl rfl ⟨?_, rfl⟩
        rw [← hf, ruleErr, if_pos h3']; rfl
      · have h3' : ¬ (v < 1 ∨ v > 3) := by simpa using h3
        repeat (first | refine wk hT rfl rfl ?_ | refine wd hT rfl rfl rfl ?_ | refine wz hT rfl ?_ | refine AWd_nil ?_ | refine AWk_nil ?_ | refine wh hT rfl rfl rfl rfl ?_ | refine wg hT rfl rfl rfl rfl rfl ?_ | refine AW_seq ?_ | refine AW_region ?_ | refine wx mixed ?_ | refine AW_block ?_ | refine AW_skip ?_ | refine AW_exit ?_ | refine AW_ret ?_)
        refine AW_condL rfl (fun h4 => ?_) (fun h4 => ?_)
        · have h4' : al = true ∧ (ck ≠ 0 ∨ cc ≠ 0 ∨ cv ≠ 0 ∨ 0 < kids.length) := by rw [hkl] at h4; simpa [or_assoc, and_assoc] using h4
          repeat (first | refine wk hT rfl rfl ?_ | refine wd hT rfl rfl rfl ?_ | refine wz hT rfl ?_ | refine AWd_nil ?_ | refine AWk_nil ?_ | refine wh hT rfl rfl rfl rfl ?_ | refine wg hT rfl rfl rfl rfl rfl ?_ | refine AW_seq ?_ | refine AW_region ?_ | refine wx mixed ?_ | refine AW_block ?_ | refine AW_skip ?_ | refine AW_exit ?_ | refine AW_ret ?_)
          refine ret_exact rfl (.refl _) rfl rfl rfl rfl ⟨?_, rfl⟩
          rw [← hf, ruleErr, if_neg h3', if_pos h4']; rfl
        · have h4' : ¬ (al = true ∧ (ck ≠ 0 ∨ cc ≠ 0 ∨ cv ≠ 0 ∨ 0 < kids.length)) := by rw [hkl] at h4; simpa [or_assoc, and_assoc] using h4
          repeat (first | refine wk hT rfl rfl ?_ | refine wd hT rfl rfl rfl ?_ | refine wz hT rfl ?_ | refine AWd_nil ?_ | refine AWk_nil ?_ | refine wh hT rfl rfl rfl rfl ?_ | refine wg hT rfl rfl rfl rfl rfl ?_ | refine AW_seq ?_ | refine AW_region ?_ | refine wx mixed ?_ | refine AW_block ?_ | refine AW_skip ?_ | refine AW_exit ?_ | refine AW_ret ?_)
          refine AWk_gop rfl rfl rfl (fun hg => ⟨by first | exact True.intro | exact ⟨hg, True.intro⟩, callS0 rfl rfl hv rfl rfl rfl⟩) ?_
          repeat (first | refine wk hT rfl rfl ?_ | refine wd hT rfl rfl rfl ?_ | refine wz hT rfl ?_ | refine AWd_nil ?_ | refine AWk_nil ?_ | refine wh hT rfl rfl rfl rfl ?_ | refine wg hT rfl rfl rfl rfl rfl ?_ | refine AW_seq ?_ | refine AW_region ?_ | refine wx mixed ?_ | refine AW_block ?_ | refine AW_skip ?_ | refine AW_exit ?_ | refine AW_ret ?_)
          refine AW_condL rfl (fun h5 => ?_) (fun h5 => ?_)
          · have h5' : al = false ∧ validC 8 (.mk ck cc cv kids) = false := by simpa using h5
            repeat (first | refine wk hT rfl rfl ?_ | refine wd hT rfl rfl rfl ?_ | refine wz hT rfl ?_ | refine AWd_nil ?_ | refine AWk_nil ?_ | refine wh hT rfl rfl rfl rfl ?_ | refine wg hT rfl rfl rfl rfl rfl ?_ | refine AW_seq ?_ | refine AW_region ?_ | refine wx mixed ?_ | refine AW_block ?_ | refine AW_skip ?_ | refine AW_exit ?_ | refine AW_ret ?_)
            refine ret_exact rfl (.refl _) rfl rfl rfl rfl ⟨?_, rfl⟩
            rw [← hf, ruleErr, if_neg h3', if_neg h4', if_pos h5']; rfl
          · have h5' : ¬ (al = false ∧ validC 8 (.mk ck cc cv kids) = false) := by simpa using h5
            have hz : ruleErr (.mk v al (.mk ck cc cv kids)) = 0 := by rw [ruleErr, if_neg h3', if_neg h4', if_neg h5']
            rw [if_pos hz] at hf
            repeat (first | refine wk hT rfl rfl ?_ | refine wd hT rfl rfl rfl ?_ | refine wz hT rfl ?_ | refine AWd_nil ?_ | refine AWk_nil ?_ | refine wh hT rfl rfl rfl rfl ?_ | refine wg hT rfl rfl rfl rfl rfl ?_ | refine AW_seq ?_ | refine AW_region ?_ | refine wx mixed ?_ | refine AW_block ?_ | refine AW_skip ?_ | refine AW_exit ?_ | refine AW_ret ?_)
            refine ⟨k + 1, [.dead], ⟨by omega, hf⟩, by omega, ⟨.refl _, .refl _, .refl _, AV.le.eq ?_, trivial⟩, ⟨ObLe.refl _, trivial, trivial⟩, Env.below_mono hE (by simp), rfl, rfl⟩
            show AV.d (.int .i64 (IntKind.i64.wrap ((k : Int) + 1))) = _
            rw [wrap_id (by omega)]; rfl
    · have hge : k = l.length := by rw [hlen] at h2; simp at h2; omega
      repeat (first | refine wk hT rfl rfl ?_ | refine wd hT rfl rfl rfl ?_ | refine wz hT rfl ?_ | refine AWd_nil ?_ | refine AWk_nil ?_ | refine wh hT rfl rfl rfl rfl ?_ | refine wg hT rfl rfl rfl rfl rfl ?_ | refine AW_seq ?_ | refine AW_region ?_ | refine wx mixed ?_ | refine AW_block ?_ | refine AW_skip ?_ | refine AW_exit ?_ | refine AW_ret ?_)
      refine ret_exact rfl (.refl _) rfl rfl rfl rfl ⟨?_, rfl⟩
      rw [← hf, hge, List.drop_length]; rfl
end Tdoc
/- Package policy: rules, and the parser as a whole. -/
set_option linter.unusedVariables false
set_option linter.unusedSimpArgs false
namespace Tdoc
open Go Go.Proofs

theorem flatC_small {kind : Int} {c : Cond} (h : smallC c) : smallCs (flatC kind c) := by
  cases c
  simp only [flatC]
  split
  · exact h.2
  · exact ⟨h, trivial⟩

def PartSmall (text : List UInt8) (n : Nat) (part : PS → Cond × PS) : Prop := ∀ s, Inv text s → text.length - s.na < n → smallC (part s).1

theorem loopP_small {text : List UInt8} {n : Nat} {part : PS → Cond × PS} (hp : PartOk text n part) (hs : PartSmall text n part) (kind : Int) {w : List UInt8} (hw : w ≠ []) : ∀ (m : Nat) (l : List Cond) (s : PS), Inv text s → text.length - s.na < n → smallCs l → smallCs (loopP text kind w part m l s).1
  | 0, l, s, h, hn, hl => hl
  | m + 1, l, s, h, hn, hl => by
    unfold loopP
    cases hi : (isP text s w).1 with
    | false => rw [if_neg (by simp)]; exact hl
    | true =>
      rw [if_pos rfl]
      obtain ⟨h1, h2, h3⟩ := isP_true h hi
      have hwl : 0 < w.length := List.length_pos_iff.2 hw
      obtain ⟨k1, k2, k3⟩ := hp.inv _ h1 (by omega)
      exact loopP_small hp hs kind hw m _ _ k1 (by omega) (smallCs_append hl (flatC_small (hs _ h1 (by omega))))

theorem seriesP_small {text : List UInt8} {n : Nat} {part : PS → Cond × PS} (hl : text.length ≤ 1000000) (hp : PartOk text n part) (hs : PartSmall text n part) (kind : Int) {w : List UInt8} (hw : w ≠ []) : PartSmall text n (seriesP text kind w part) := by
  intro s h hn
  obtain ⟨k1, k2, k3⟩ := hp.inv s h hn
  have h0 := hs s h hn
  have hwide := ((seriesP_ok hp kind hw).inv s h hn)
  unfold seriesP at hwide ⊢
  split
  · exact h0
  · rename_i hc
    rw [if_neg hc] at hwide
    obtain ⟨q1, q2, q3⟩ := hwide
    simp only [wideC] at q3
    have := q1.a; have := q1.le
    exact ⟨by simp only at *; omega, loopP_small hp hs kind hw _ _ _ k1 (by omega) (flatC_small h0)⟩

theorem atomP_small {text : List UInt8} (hl : text.length ≤ 1000000) : ∀ n, PartSmall text n (atomP text n)
  | 0 => fun s _ hn => by omega
  | n + 1 => by
    have ih := atomP_small hl n
    intro s h hn
    unfold atomP
    cases h1 : (isP text s notW).1 with
    | true =>
      rw [if_pos rfl]
      obtain ⟨k1, k2, k3⟩ := isP_true h h1
      have : notW.length = 3 := rfl
      exact ⟨by simp, ih _ k1 (by omega), trivial⟩
    | false =>
      rw [if_neg (by simp), isP_false h1]
      cases h2 : (isP text s lpW).1 with
      | true =>
        rw [if_pos rfl]
        obtain ⟨k1, k2, k3⟩ := isP_true h h2
        have : lpW.length = 1 := rfl
        exact seriesP_small hl (conjP_ok text n) (seriesP_small hl (atomP_ok text n) ih 3 (w := andW) (by decide)) 4 (w := orW) (by decide) _ k1 (by omega)
      | false =>
        rw [if_neg (by simp)]
        unfold isAtomP
        split <;> exact ⟨by simp, trivial⟩

theorem condP_small {text : List UInt8} (hl : text.length ≤ 1000000) (n : Nat) : PartSmall text n (condP text n) :=
  seriesP_small hl (conjP_ok text n) (seriesP_small hl (atomP_ok text n) (atomP_small hl n) 3 (w := andW) (by decide)) 4 (w := orW) (by decide)

def ruleP (text : List UInt8) (n : Nat) (s : PS) : Rule × PS :=
  if (isP text (oneP text s vds).2 ifW).1 then (.mk (oneP text s vds).1 false (condP text n (isP text (oneP text s vds).2 ifW).2).1, needP text (condP text n (isP text (oneP text s vds).2 ifW).2).2 scW)
  else (.mk (oneP text s vds).1 true (.mk 0 0 0 []), needP text (isP text (oneP text s vds).2 ifW).2 scW)

theorem isP_wr {text : List UInt8} {s : PS} {w : List UInt8} (h : s.wr = true) : isP text s w = (false, s) := by unfold isP; rw [if_pos (.inl h)]
theorem needP_wr {text : List UInt8} {s : PS} {w : List UInt8} (h : s.wr = true) : (needP text s w).wr = true := by unfold needP; rw [isP_wr h]; rfl

theorem ruleP_ok {text : List UInt8} (hl : text.length ≤ 1000000) {s : PS} (h : Inv text s) (hnt : s.nt ≠ []) :
    Inv text (ruleP text (text.length + 1) s).2 ∧ s.na ≤ (ruleP text (text.length + 1) s).2.na ∧ ((ruleP text (text.length + 1) s).2.wr = true ∨ s.na < (ruleP text (text.length + 1) s).2.na) ∧ smallC (condR (ruleP text (text.length + 1) s).1) := by
  obtain ⟨h1, h2⟩ := oneP_inv (l := vds) h
  have hone : (oneP text s vds).2.wr = true ∨ s.na < (oneP text s vds).2.na := by
    unfold oneP
    split
    · exact .inl rfl
    · obtain ⟨_, q, _⟩ := h.next
      have := List.length_pos_iff.2 hnt
      exact .inr (by simp only; omega)
  obtain ⟨h3, h4⟩ := isP_inv (w := ifW) h1
  unfold ruleP
  cases hi : (isP text (oneP text s vds).2 ifW).1 with
  | true =>
    rw [if_pos rfl]
    have hnw : (oneP text s vds).2.wr = false := by
      cases hb : (oneP text s vds).2.wr with
      | false => rfl
      | true => rw [isP_wr hb] at hi; cases hi
    rw [hnw] at hone
    have hone := hone.resolve_left (by simp)
    obtain ⟨q1, q2, q3⟩ := (condP_ok text (text.length + 1)).inv _ h3 (by omega)
    obtain ⟨r1, r2⟩ := needP_inv (w := scW) q1
    exact ⟨r1, by simp only; omega, .inr (by simp only; omega), condP_small hl _ _ h3 (by omega)⟩
  | false =>
    rw [if_neg (by simp)]
    obtain ⟨r1, r2⟩ := needP_inv (w := scW) h3
    refine ⟨r1, by simp only; omega, ?_, by simp, trivial⟩
    rcases hone with hw | hw
    · left; rw [isP_wr hw]; exact needP_wr hw
    · right; simp only; omega

theorem lowL_encR (k : Nat) (r : Rule) : low k (.agg ((encR r).map .d)) = true := lowL_d (encR r)

set_option maxRecDepth 100000 in
theorem rule_spec {text : List UInt8} (hl : text.length ≤ 1000000) (s : PS) (h : Inv text s) :
    Spec Try.prog 22 [.ptr 0 0] [.row (psr text s)] (fun r h' => r = .agg ((encR (ruleP text (text.length + 1) s).1).map .d) ∧ h' = [.row (psr text (ruleP text (text.length + 1) s).2)]) := by
  have hone := one_spec text s vds h.le hl (by decide)
  obtain ⟨q1, q2⟩ := oneP_inv (l := vds) h
  unfold ruleP
  generalize oneP text s vds = r1 at hone q1 q2 ⊢
  obtain ⟨n1, s1⟩ := r1
  simp only at hone q1 q2 ⊢
  have his := is_spec text s1 ifW q1.le hl
  obtain ⟨j1, j2⟩ := isP_inv (w := ifW) q1
  generalize isP text s1 ifW = r2 at his j1 j2 ⊢
  obtain ⟨b2, s2⟩ := r2
  simp only at his j1 j2 ⊢
  have hcond := cond_spec hl (conj_spec hl (atom_spec hl (text.length + 1))) s2 j1 (by omega)
  obtain ⟨k1, k2, k3⟩ := (condP_ok text (text.length + 1)).inv s2 j1 (by omega)
  generalize condP text (text.length + 1) s2 = r3 at hcond k1 ⊢
  obtain ⟨⟨k, c, v, kids⟩, s3⟩ := r3
  simp only at hcond k1 ⊢
  have hn1 := need_spec text s3 scW k1.le hl
  have hn2 := need_spec text s2 scW j1.le hl
  generalize needP text s3 scW = s4 at hn1 ⊢
  generalize needP text s2 scW = s5 at hn2 ⊢
  refine Spec_of_body hT Try.func22 rfl rfl rfl rfl ?_
  intro E hE
  repeat (first | refine wk hT rfl rfl ?_ | refine wd hT rfl rfl rfl ?_ | refine wz hT rfl ?_ | refine AWd_nil ?_ | refine AWk_nil ?_ | refine wh hT rfl rfl rfl rfl ?_ | refine wg hT rfl rfl rfl rfl rfl ?_ | refine AW_seq ?_ | refine AW_region ?_ | refine wx mixed ?_ | refine AW_block ?_ | refine AW_skip ?_ | refine AW_exit ?_ | refine AW_ret ?_)
  refine AWk_op (callS0 rfl rfl Verdicts_spec rfl rfl rfl) rfl ?_
  refine AWk_op (callS1 rfl rfl hone [0] (by decide) rfl rfl rfl (lowH_psr 0 _ _) (lowH_psr 0 _ _) rfl rfl) rfl ?_
  repeat (first | refine wk hT rfl rfl ?_ | refine wd hT rfl rfl rfl ?_ | refine wz hT rfl ?_ | refine AWd_nil ?_ | refine AWk_nil ?_ | refine wh hT rfl rfl rfl rfl ?_ | refine wg hT rfl rfl rfl rfl rfl ?_ | refine AW_seq ?_ | refine AW_region ?_ | refine wx mixed ?_ | refine AW_block ?_ | refine AW_skip ?_ | refine AW_exit ?_ | refine AW_ret ?_)
  refine AWk_op (callS1 rfl rfl his [0] (by decide) rfl rfl rfl (lowH_psr 0 _ _) (lowH_psr 0 _ _) rfl rfl) rfl ?_
  repeat (first | refine wk hT rfl rfl ?_ | refine wd hT rfl rfl rfl ?_ | refine wz hT rfl ?_ | refine AWd_nil ?_ | refine AWk_nil ?_ | refine wh hT rfl rfl rfl rfl ?_ | refine wg hT rfl rfl rfl rfl rfl ?_ | refine AW_seq ?_ | refine AW_region ?_ | refine wx mixed ?_ | refine AW_block ?_ | refine AW_skip ?_ | refine AW_exit ?_ | refine AW_ret ?_)
  refine AW_condL rfl (fun hb => ?_) (fun hb => ?_)
  · subst hb
    rw [if_pos rfl]
    repeat (first | refine wk hT rfl rfl ?_ | refine wd hT rfl rfl rfl ?_ | refine wz hT rfl ?_ | refine AWd_nil ?_ | refine AWk_nil ?_ | refine wh hT rfl rfl rfl rfl ?_ | refine wg hT rfl rfl rfl rfl rfl ?_ | refine AW_seq ?_ | refine AW_region ?_ | refine wx mixed ?_ | refine AW_block ?_ | refine AW_skip ?_ | refine AW_exit ?_ | refine AW_ret ?_)
    refine AWk_op (callS1 rfl rfl hcond [0] (by decide) rfl rfl rfl (lowH_psr 0 _ _) (lowH_psr 0 _ _) (ren_cAV _ _) rfl) rfl ?_
    repeat (first | refine wk hT rfl rfl ?_ | refine wd hT rfl rfl rfl ?_ | refine wz hT rfl ?_ | refine AWd_nil ?_ | refine AWk_nil ?_ | refine wh hT rfl rfl rfl rfl ?_ | refine wg hT rfl rfl rfl rfl rfl ?_ | refine AW_seq ?_ | refine AW_region ?_ | refine wx mixed ?_ | refine AW_block ?_ | refine AW_skip ?_ | refine AW_exit ?_ | refine AW_ret ?_)
    refine AWk_op (callS1 rfl rfl hn1 [0] (by decide) rfl rfl rfl (lowH_psr 0 _ _) (lowH_psr 0 _ _) rfl rfl) rfl ?_
    repeat (first | refine wk hT rfl rfl ?_ | refine wd hT rfl rfl rfl ?_ | refine wz hT rfl ?_ | refine AWd_nil ?_ | refine AWk_nil ?_ | refine wh hT rfl rfl rfl rfl ?_ | refine wg hT rfl rfl rfl rfl rfl ?_ | refine AW_seq ?_ | refine AW_region ?_ | refine wx mixed ?_ | refine AW_block ?_ | refine AW_skip ?_ | refine AW_exit ?_ | refine AW_ret ?_)
    exact ret_exact (r := .agg ((encR (.mk n1 false (.mk k c v kids))).map .d)) rfl (AV.le.agg ⟨.refl _, .refl _, .refl _, .refl _, .refl _, .refl _, trivial⟩) rfl rfl rfl (lowH_psr _ _ _) ⟨rfl, rfl⟩
  · subst hb
    rw [if_neg (by simp)]
    repeat (first | refine wk hT rfl rfl ?_ | refine wd hT rfl rfl rfl ?_ | refine wz hT rfl ?_ | refine AWd_nil ?_ | refine AWk_nil ?_ | refine wh hT rfl rfl rfl rfl ?_ | refine wg hT rfl rfl rfl rfl rfl ?_ | refine AW_seq ?_ | refine AW_region ?_ | refine wx mixed ?_ | refine AW_block ?_ | refine AW_skip ?_ | refine AW_exit ?_ | refine AW_ret ?_)
    refine AWk_op (callS1 rfl rfl hn2 [0] (by decide) rfl rfl rfl (lowH_psr 0 _ _) (lowH_psr 0 _ _) rfl rfl) rfl ?_
    repeat (first | refine wk hT rfl rfl ?_ | refine wd hT rfl rfl rfl ?_ | refine wz hT rfl ?_ | refine AWd_nil ?_ | refine AWk_nil ?_ | refine wh hT rfl rfl rfl rfl ?_ | refine wg hT rfl rfl rfl rfl rfl ?_ | refine AW_seq ?_ | refine AW_region ?_ | refine wx mixed ?_ | refine AW_block ?_ | refine AW_skip ?_ | refine AW_exit ?_ | refine AW_ret ?_)
    exact ret_exact (r := .agg ((encR (.mk n1 true (.mk 0 0 0 []))).map .d)) rfl (AV.le.agg ⟨.refl _, .refl _, .refl _, .refl _, .refl _, AV.le.dat, trivial⟩) rfl rfl rfl (lowH_psr _ _ _) ⟨rfl, rfl⟩
end Tdoc
/- Package policy: Parse. -/
set_option linter.unusedVariables false
set_option linter.unusedSimpArgs false
namespace Tdoc
open Go Go.Proofs

def rulesP (text : List UInt8) : Nat → List Rule → PS → List Rule × PS
  | 0, l, s => (l, s)
  | m + 1, l, s => if s.nt ≠ [] ∧ s.wr = false then rulesP text m (l ++ [(ruleP text (text.length + 1) s).1]) (ruleP text (text.length + 1) s).2 else (l, s)

def parseQ (text : List UInt8) : List Rule × PS := rulesP text (text.length + 3) [] (nextP text ⟨0, [], 0, false⟩)

def parseP (text : List UInt8) : List Rule × Int × Int :=
  if text.length > 4096 then ([], 0, 72)
  else if (parseQ text).2.wr = true then ([], (parseQ text).2.na, 71)
  else if validPol (parseQ text).1 ≠ 0 then ([], 0, 72) else ((parseQ text).1, 0, 0)

def meas (text : List UInt8) (s : PS) : Nat := if s.wr = true then 0 else text.length - s.na + 1

theorem encRs_append (a : List Rule) (r : Rule) : encRs (a ++ [r]) = encRs a ++ [encR r] := by simp [encRs]

set_option maxRecDepth 100000 in
theorem Parse_spec (text : List UInt8) (hl : text.length ≤ 1000000) :
    Spec Try.prog 8 [.d (.str text)] [] (fun r h' => r = .tup [polAV (parseP text).1, .d (.int .i64 (parseP text).2.1), .d (.int .i64 (parseP text).2.2)] ∧ h' = []) := by
  refine Spec_of_body hT Try.func8 rfl rfl rfl rfl ?_
  intro E hE
  have i0 : Inv text ⟨0, [], 0, false⟩ := ⟨rfl, by simp⟩
  have hnext := next_spec text ⟨0, [], 0, false⟩ (by simp) hl
  repeat (first | refine wk hT rfl rfl ?_ | refine wd hT rfl rfl rfl ?_ | refine wz hT rfl ?_ | refine AWd_nil ?_ | refine AWk_nil ?_ | refine wh hT rfl rfl rfl rfl ?_ | refine wg hT rfl rfl rfl rfl rfl ?_ | refine AW_seq ?_ | refine AW_region ?_ | refine wx mixed ?_ | refine AW_block ?_ | refine AW_skip ?_ | refine AW_exit ?_ | refine AW_ret ?_)
  refine AW_condL rfl (fun h1 => ?_) (fun h1 => ?_)
  · have h1' : text.length > 4096 := by simp at h1; omega
    unfold parseP
    rw [if_pos h1']
    repeat (first | refine wk hT rfl rfl ?_ | refine wd hT rfl rfl rfl ?_ | refine wz hT rfl ?_ | refine AWd_nil ?_ | refine AWk_nil ?_ | refine wh hT rfl rfl rfl rfl ?_ | refine wg hT rfl rfl rfl rfl rfl ?_ | refine AW_seq ?_ | refine AW_region ?_ | refine wx mixed ?_ | refine AW_block ?_ | refine AW_skip ?_ | refine AW_exit ?_ | refine AW_ret ?_)
    exact ret_exact (r := .tup [polAV [], .d (.int .i64 0), .d (.int .i64 72)]) rfl (AV.le.tup ⟨AV.le.agg ⟨AV.le.dat, trivial⟩, .refl _, .refl _, trivial⟩) rfl rfl rfl rfl ⟨rfl, rfl⟩
  · have h1' : ¬ text.length > 4096 := by simp at h1; omega
    unfold parseP
    rw [if_neg h1']
    obtain ⟨i1, _, i1w⟩ := i0.next
    generalize hq : parseQ text = q
    unfold parseQ at hq
    generalize nextP text ⟨0, [], 0, false⟩ = s0 at hnext i1 i1w hq
    repeat (first | refine wk hT rfl rfl ?_ | refine wd hT rfl rfl rfl ?_ | refine wz hT rfl ?_ | refine AWd_nil ?_ | refine AWk_nil ?_ | refine wh hT rfl rfl rfl rfl ?_ | refine wg hT rfl rfl rfl rfl rfl ?_ | refine AW_seq ?_ | refine AW_region ?_ | refine wx mixed ?_ | refine AW_block ?_ | refine AW_skip ?_ | refine AW_exit ?_ | refine AW_ret ?_)
    refine AWk_op (callS1 rfl rfl hnext [1] (by decide) rfl rfl rfl rfl (lowH_psr 0 _ _) rfl rfl) rfl ?_
    repeat (first | refine wk hT rfl rfl ?_ | refine wd hT rfl rfl rfl ?_ | refine wz hT rfl ?_ | refine AWd_nil ?_ | refine AWk_nil ?_ | refine wh hT rfl rfl rfl rfl ?_ | refine wg hT rfl rfl rfl rfl rfl ?_ | refine AW_seq ?_ | refine AW_region ?_ | refine wx mixed ?_ | refine AW_block ?_ | refine AW_skip ?_ | refine AW_exit ?_ | refine AW_ret ?_)
    refine AW_room (AW_acquireH 2 0 3 6 rfl rfl rfl ?_)
    refine AW_loopC (ι := List Rule × PS)
      (fun x => [(2, .ptr 0 0), (5, .ptr 1 0), (6, .ptr 2 0)])
      (fun x => [.row [.sl 6 [] .full], .row (psr text x.2), .row [.sl 6 (encRs x.1) (.right 3)], .right 6 (encRs x.1).length])
      (fun x => Inv text x.2 ∧ x.1.length ≤ x.2.na + (if x.2.wr = true then 1 else 0) ∧ (∀ r, r ∈ x.1 → smallC (condR r)) ∧ ∃ m, meas text x.2 < m ∧ rulesP text m x.1 x.2 = q)
      (fun x => meas text x.2) ([], s0) ⟨i1, by simp, (fun r hr => (by cases hr)), text.length + 3, (by unfold meas; split <;> omega), hq⟩
      ⟨.refl _, .refl _, .refl _, trivial⟩ (HLe.refl _) ?_
    rintro ⟨l, s⟩ ⟨j1, j2, j3, m, j4, j5⟩
    simp only at j1 j2 j3 j4 j5 ⊢
    obtain ⟨m, rfl⟩ : ∃ m', m = m' + 1 := ⟨m - 1, by omega⟩
    rw [rulesP] at j5
    have hrule := rule_spec hl s j1
    have hrok := ruleP_ok hl j1
    generalize ruleP text (text.length + 1) s = rs at hrule hrok j5
    obtain ⟨⟨rv, ral, ⟨rk, rc, rw_, rkids⟩⟩, s2⟩ := rs
    simp only at hrule hrok j5
    obtain ⟨a, nt, na, wr⟩ := s
    simp only at j1 j2 j4 j5 hrok
    have hna := j1.a; have hle := j1.le
    simp only at hna hle
    repeat (first | refine wk hT rfl rfl ?_ | refine wd hT rfl rfl rfl ?_ | refine wz hT rfl ?_ | refine AWd_nil ?_ | refine AWk_nil ?_ | refine wh hT rfl rfl rfl rfl ?_ | refine wg hT rfl rfl rfl rfl rfl ?_ | refine AW_seq ?_ | refine AW_region ?_ | refine wx mixed ?_ | refine AW_block ?_ | refine AW_skip ?_ | refine AW_exit ?_ | refine AW_ret ?_)
    refine AW_condL rfl (fun h2 => ?_) (fun h2 => ?_)
    · have h2' : nt ≠ [] ∧ wr = false := by simpa using h2
      rw [if_pos h2'] at j5
      obtain ⟨k1, k2, k3, k4⟩ := hrok h2'.1
      have hk1 := k1.a; have hk2 := k1.le
      obtain ⟨hnt, rfl⟩ := h2'
      repeat (first | refine AW_exit ?_ | refine AW_skip ?_)
      refine AW_block ?_
      refine AW_drawG (fun i => bif Nat.beq i 1 then [2] else bif Nat.beq i 3 then [1] else bif Nat.beq i 5 then [3] else bif Nat.beq i 7 then [2] else []) (fun i => bif Nat.beq i 3 then [1] else bif Nat.beq i 5 then [3] else bif Nat.beq i 7 then [2] else []) mixed (by kernel_rfl) ?_
      repeat (first | refine AWg_load hT rfl rfl rfl rfl (by first | exact List.mem_cons_self | exact sm) rfl ?_ | refine AWg_pure hT (fun _ => rfl) rfl rfl (by first | exact True.intro | omega | exact sd) ?_ | refine AWg_store hT rfl rfl rfl (by first | exact List.mem_cons_self | exact sm) rfl ?_ | refine AWd_nil ?_)
      refine AWg_op (v := .agg ((encR (.mk rv ral (.mk rk rc rw_ rkids))).map .d)) (os := [.row (psr text s2)]) (fun k hk1 hk2 => callS1 rfl rfl hrule [1] (by decide) (congrArg (fun x => [x]) ((hk2 1 (by show 1 ∈ [1]; simp)).trans rfl)) rfl rfl rfl (lowH_psr 0 _ _) rfl rfl) rfl ?_
      refine AWg_op (os := []) (fun k hk1 hk2 => buildSl_ok hT rfl rfl) rfl ?_
      refine AWg_op (v := .sl 6 (encRs l ++ [encR (.mk rv ral (.mk rk rc rw_ rkids))]) (.right 3)) (os := [.right 6 ((encRs l).length + 1)]) (fun k hk1 hk2 => append_right (i := 3) hT rfl rfl rfl rfl ((hk2 3 (by show 3 ∈ [3]; simp)).trans rfl) rfl (by show ((encRs l).length + 1) * (64 + 1) ≤ 140737488355328; simp [encRs]; simp at j2; omega)) rfl ?_
      repeat (first | refine AWg_load hT rfl rfl rfl rfl (by first | exact List.mem_cons_self | exact sm) rfl ?_ | refine AWg_pure hT (fun _ => rfl) rfl rfl (by first | exact True.intro | omega | exact sd) ?_ | refine AWg_store hT rfl rfl rfl (by first | exact List.mem_cons_self | exact sm) rfl ?_ | refine AWd_nil ?_)
      refine ⟨(l ++ [.mk rv ral (.mk rk rc rw_ rkids)], s2), [], ⟨k1, ?_, ?_, m, ?_, j5⟩, ?_, ⟨.refl _, .refl _, .refl _, trivial⟩, ⟨ObLe.refl _, ObLe.refl _, ?_, ?_, trivial⟩, Env.below_mono hE (by simp), rfl, ?_⟩
      · simp only [List.length_append, List.length_cons, List.length_nil]; simp at j2; split <;> (rcases k3 with k3 | k3 <;> simp_all <;> omega)
      · intro r hr
        rcases List.mem_append.1 hr with hr | hr
        · exact j3 r hr
        · simp at hr; subst hr; exact k4
      · unfold meas at j4 ⊢; simp only at j4 ⊢; simp at j4; split
        · omega
        · rcases k3 with k3 | k3 <;> simp_all <;> omega
      · unfold meas; simp only; simp; split
        · omega
        · rcases k3 with k3 | k3 <;> simp_all <;> omega
      · simp only [encRs_append]; exact ObLe.refl _
      · simp only [encRs_append, List.length_append]; exact ObLe.refl _
      · simp only [lowH, lowO, low_psr]; rfl
    · have h2' : ¬ (nt ≠ [] ∧ wr = false) := by simpa using h2
      rw [if_neg h2'] at j5
      subst j5
      repeat (first | refine AW_exit ?_ | refine AW_skip ?_)
      refine AW_subL (l := [(2, .ptr 0 0), (5, .ptr 1 0), (6, .ptr 2 0)]) (h' := [.row [.sl 6 [] .full], .row (psr text ⟨a, nt, na, wr⟩), .row [.d (.sl 6 (encRs l))], .dead]) ⟨.refl _, .refl _, .refl _, trivial⟩ ⟨ObLe.refl _, ObLe.refl _, ⟨AV.le.dat, trivial⟩, trivial, trivial⟩ ?_
      have hvalid := Valid_spec l j3
      repeat (first | refine wk hT rfl rfl ?_ | refine wd hT rfl rfl rfl ?_ | refine wz hT rfl ?_ | refine AWd_nil ?_ | refine AWk_nil ?_ | refine wh hT rfl rfl rfl rfl ?_ | refine wg hT rfl rfl rfl rfl rfl ?_ | refine AW_seq ?_ | refine AW_region ?_ | refine wx mixed ?_ | refine AW_block ?_ | refine AW_skip ?_ | refine AW_exit ?_ | refine AW_ret ?_)
      refine AW_condL rfl (fun h3 => ?_) (fun h3 => ?_)
      · subst h3
        rw [if_pos rfl]
        refine AW_seq ?_
        refine AW_drawG (fun i => bif Nat.beq i 5 then [1] else bif Nat.beq i 6 then [0] else []) (fun i => bif Nat.beq i 6 then [0] else []) mixed (by kernel_rfl) ?_
        repeat (first | refine AWg_load hT rfl rfl rfl rfl (by first | exact List.mem_cons_self | exact sm) rfl ?_ | refine AWg_pure hT (fun _ => rfl) rfl rfl (by first | exact True.intro | omega | exact sd) ?_ | refine AWg_store hT rfl rfl rfl (by first | exact List.mem_cons_self | exact sm) rfl ?_ | refine AWd_nil ?_)
        repeat (first | refine wk hT rfl rfl ?_ | refine wd hT rfl rfl rfl ?_ | refine wz hT rfl ?_ | refine AWd_nil ?_ | refine AWk_nil ?_ | refine wh hT rfl rfl rfl rfl ?_ | refine wg hT rfl rfl rfl rfl rfl ?_ | refine AW_seq ?_ | refine AW_region ?_ | refine wx mixed ?_ | refine AW_block ?_ | refine AW_skip ?_ | refine AW_exit ?_ | refine AW_ret ?_)
        exact ret_exact (r := .tup [polAV [], .d (.int .i64 na), .d (.int .i64 71)]) rfl (AV.le.tup ⟨AV.le.agg ⟨AV.le.dat, trivial⟩, .refl _, .refl _, trivial⟩) rfl rfl rfl rfl ⟨rfl, rfl⟩
      · subst h3
        rw [if_neg (by simp)]
        repeat (first | refine wk hT rfl rfl ?_ | refine wd hT rfl rfl rfl ?_ | refine wz hT rfl ?_ | refine AWd_nil ?_ | refine AWk_nil ?_ | refine wh hT rfl rfl rfl rfl ?_ | refine wg hT rfl rfl rfl rfl rfl ?_ | refine AW_seq ?_ | refine AW_region ?_ | refine wx mixed ?_ | refine AW_block ?_ | refine AW_skip ?_ | refine AW_exit ?_ | refine AW_ret ?_)
        refine AWk_op (callS0 rfl rfl hvalid rfl rfl rfl) rfl ?_
        repeat (first | refine wk hT rfl rfl ?_ | refine wd hT rfl rfl rfl ?_ | refine wz hT rfl ?_ | refine AWd_nil ?_ | refine AWk_nil ?_ | refine wh hT rfl rfl rfl rfl ?_ | refine wg hT rfl rfl rfl rfl rfl ?_ | refine AW_seq ?_ | refine AW_region ?_ | refine wx mixed ?_ | refine AW_block ?_ | refine AW_skip ?_ | refine AW_exit ?_ | refine AW_ret ?_)
        refine AW_condL rfl (fun h4 => ?_) (fun h4 => ?_)
        · have h4' : validPol l ≠ 0 := by simpa using h4
          rw [if_pos h4']
          repeat (first | refine wk hT rfl rfl ?_ | refine wd hT rfl rfl rfl ?_ | refine wz hT rfl ?_ | refine AWd_nil ?_ | refine AWk_nil ?_ | refine wh hT rfl rfl rfl rfl ?_ | refine wg hT rfl rfl rfl rfl rfl ?_ | refine AW_seq ?_ | refine AW_region ?_ | refine wx mixed ?_ | refine AW_block ?_ | refine AW_skip ?_ | refine AW_exit ?_ | refine AW_ret ?_)
          exact ret_exact (r := .tup [polAV [], .d (.int .i64 0), .d (.int .i64 72)]) rfl (AV.le.tup ⟨AV.le.agg ⟨AV.le.dat, trivial⟩, .refl _, .refl _, trivial⟩) rfl rfl rfl rfl ⟨rfl, rfl⟩
        · have h4' : ¬ validPol l ≠ 0 := by simpa using h4
          rw [if_neg h4']
          repeat (first | refine wk hT rfl rfl ?_ | refine wd hT rfl rfl rfl ?_ | refine wz hT rfl ?_ | refine AWd_nil ?_ | refine AWk_nil ?_ | refine wh hT rfl rfl rfl rfl ?_ | refine wg hT rfl rfl rfl rfl rfl ?_ | refine AW_seq ?_ | refine AW_region ?_ | refine wx mixed ?_ | refine AW_block ?_ | refine AW_skip ?_ | refine AW_exit ?_ | refine AW_ret ?_)
          exact ret_exact (r := .tup [polAV l, .d (.int .i64 0), .d (.int .i64 0)]) rfl (AV.le.tup ⟨.refl _, .refl _, .refl _, trivial⟩) rfl rfl rfl rfl ⟨rfl, rfl⟩
end Tdoc
