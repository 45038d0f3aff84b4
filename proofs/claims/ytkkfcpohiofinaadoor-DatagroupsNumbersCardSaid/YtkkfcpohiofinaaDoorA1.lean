/- Abstract values, ghost state and the relation between abstract and concrete states: the ground of all proofs of this seat. No program is named here. -/
import Derived.Calls
import Derived.Orders
import Derived.Laws.World
import Derived.Laws.Sem
import Derived.Laws.Cells
namespace Tdoc
open Go

inductive Dat where
  | int (k : IntKind) (n : Int)
  | bool (b : Bool)
  | str (s : List UInt8)
  | sl (sz : Nat) (es : List (List Dat))

inductive Tok where
  | none
  | full
  | right (i : Nat)

inductive AV where
  | d (x : Dat)
  | sl (sz : Nat) (es : List (List Dat)) (tok : Tok)
  | nils
  | ptr (i off : Nat)
  | iptr (cs : List Dat)
  | nilp
  | row (i off n cap : Nat)
  | bm (i n : Nat)
  | bp (i n k : Nat)
  | fn (f : Fn) (first captured : List AV)
  | nilf
  | agg (cs : List AV)
  | tup (vs : List AV)
  | gd (b : Bool) (v : AV)
  | any

inductive AObj where
  | row (cells : List AV)
  | buf (sz n : Nat) (cells : List AV)
  | right (sz n : Nat)
  | dead
  | room

def oneC : Value → Bool
  | .agg _ | .tuple _ => false
  | _ => true

structure Gh where
  imm : Addr → Option Value
  loc : Nat → Option Nat
  rt : Nat → Nat → Option (Option Addr × Nat)
  own : Nat → Option Nat

structure Gh.le (G G' : Gh) : Prop where
  imm : ∀ a v, G.imm a = some v → G'.imm a = some v
  loc : ∀ i b, G.loc i = some b → G'.loc i = some b
  rt : ∀ i n x, G.rt i n = some x → G'.rt i n = some x
  own : ∀ b i, G.own b = some i → G'.own b = some i

theorem Gh.le.refl (G : Gh) : G.le G := ⟨fun _ _ h => h, fun _ _ h => h, fun _ _ _ h => h, fun _ _ h => h⟩
theorem Gh.le.trans {A B C : Gh} (h : A.le B) (k : B.le C) : A.le C :=
  ⟨fun a v x => k.imm a v (h.imm a v x), fun i b x => k.loc i b (h.loc i b x), fun i n y x => k.rt i n y (h.rt i n y x), fun b i x => k.own b i (h.own b i x)⟩

inductive RepD (m : Addr → Option Value) : Dat → Value → Prop
  | int (k : IntKind) (n : Int) : RepD m (.int k n) (.int k n)
  | bool (b : Bool) : RepD m (.bool b) (.bool b)
  | str (s : List UInt8) : RepD m (.str s) (.string ⟨s.toArray⟩)
  | nil (sz : Nat) : RepD m (.sl sz []) (.slice none 0 0)
  | sl (sz : Nat) (es : List (List Dat)) (a : Addr) (cap : Nat) (vs : Nat → Value) : a.spot = none → es.length ≤ cap → (∀ e, e ∈ es → e.length = sz) →
      (∀ (i : Nat) (e : List Dat) (j : Nat) (d : Dat), es[i]? = some e → e[j]? = some d → m (a.add (i * sz + j)) = some (vs (i * sz + j))) →
      (∀ (i : Nat) (e : List Dat) (j : Nat) (d : Dat), es[i]? = some e → e[j]? = some d → RepD m d (vs (i * sz + j))) →
      RepD m (.sl sz es) (.slice (some a) es.length cap)

theorem RepD.mono {m m' : Addr → Option Value} (h : ∀ a v, m a = some v → m' a = some v) {x : Dat} {v : Value} (r : RepD m x v) : RepD m' x v := by
  induction r with
  | int k n => exact .int k n
  | bool b => exact .bool b
  | str s => exact .str s
  | nil sz => exact .nil sz
  | sl sz es a cap vs h1 h2 h3 h4 _ ih => exact .sl sz es a cap vs h1 h2 h3 (fun i e j d he hd => h _ _ (h4 i e j d he hd)) ih

/-- The tables of this seat: what stands at package variables that nothing writes. -/
def seatTab : Nat → Option (List Dat) := fun g => match g with | 0 => some [.int .i64 97, .int .i64 117, .int .i64 99, .int .i64 118, .int .i64 101, .int .i64 102, .int .i64 103, .int .i64 104, .int .i64 105, .int .i64 106, .int .i64 107, .int .i64 108, .int .i64 109, .int .i64 110, .int .i64 111, .int .i64 112, .int .i64 96, .int .i64 119] | 1 => some [.int .i64 97, .int .i64 117, .int .i64 99, .int .i64 118, .int .i64 101, .int .i64 102, .int .i64 103, .int .i64 104, .int .i64 105, .int .i64 106, .int .i64 107, .int .i64 108, .int .i64 109, .int .i64 110, .int .i64 111, .int .i64 112, .int .i64 96, .int .i64 119] | _ => none

def TabOk (m : Addr → Option Value) : Prop :=
  ∀ (g : Nat) (cs : List Dat), seatTab g = some cs → ∃ vs : Nat → Value, ∀ (j : Nat) (d : Dat), cs[j]? = some d → m ⟨g, j, none⟩ = some (vs j) ∧ RepD m d (vs j)

theorem TabOk.mono {m m' : Addr → Option Value} (h : ∀ a v, m a = some v → m' a = some v) (r : TabOk m) : TabOk m' := fun g cs hg => by
  obtain ⟨vs, hv⟩ := r g cs hg
  exact ⟨vs, fun j d hd => ⟨h _ _ (hv j d hd).1, (hv j d hd).2.mono h⟩⟩

theorem RepD.one {m : Addr → Option Value} {x : Dat} {v : Value} (r : RepD m x v) : oneC v = true := by cases r <;> rfl

def TokOk (G : Gh) (tok : Tok) (n : Nat) (v : Value) : Prop :=
  match tok with
  | .none => True
  | .full => ∃ a, v = .slice a n n
  | .right i => ∃ a cap, v = .slice a n cap ∧ G.rt i n = some (a, cap)

theorem TokOk.mono {G G' : Gh} (h : G.le G') {tok : Tok} {n : Nat} {v : Value} (r : TokOk G tok n v) : TokOk G' tok n v := by
  cases tok with
  | none => trivial
  | full => exact r
  | right i => obtain ⟨a, cap, hv, hr⟩ := r; exact ⟨a, cap, hv, h.rt _ _ _ hr⟩

inductive RepA (G : Gh) : AV → Value → Prop
  | d {x : Dat} {v : Value} : RepD G.imm x v → RepA G (.d x) v
  | sl {sz : Nat} {es : List (List Dat)} {tok : Tok} {v : Value} : RepD G.imm (.sl sz es) v → TokOk G tok es.length v → RepA G (.sl sz es tok) v
  | nils : RepA G .nils (.slice none 0 0)
  | ptr {i b : Nat} (off : Nat) : G.loc i = some b → RepA G (.ptr i off) (.pointer (some ⟨b, off, none⟩))
  | iptr {cs : List Dat} (a : Addr) (vs : Nat → Value) : a.spot = none → (∀ (j : Nat) (d : Dat), cs[j]? = some d → G.imm (a.add j) = some (vs j)) →
      (∀ (j : Nat) (d : Dat), cs[j]? = some d → RepD G.imm d (vs j)) → RepA G (.iptr cs) (.pointer (some a))
  | nilp : RepA G .nilp (.pointer none)
  | row {i b : Nat} (off n cap : Nat) : G.loc i = some b → RepA G (.row i off n cap) (.slice (some ⟨b, off, none⟩) n cap)
  | bm {i n : Nat} (a : Option Addr) (cap : Nat) : G.rt i n = some (a, cap) → (a = none → n = 0) → RepA G (.bm i n) (.slice a n cap)
  | bp {i n : Nat} (p : Addr) (cap k : Nat) : G.rt i n = some (some p, cap) → RepA G (.bp i n k) (.pointer (some (p.add k)))
  | fn (f : Fn) {first cap : List AV} (fs cs : Array Value) : fs.size = first.length → cs.size = cap.length →
      (∀ (j : Nat) (x : AV) (v : Value), first[j]? = some x → fs[j]? = some v → RepA G x v) →
      (∀ (j : Nat) (x : AV) (v : Value), cap[j]? = some x → cs[j]? = some v → RepA G x v) → RepA G (.fn f first cap) (.func f fs cs)
  | nilf : RepA G .nilf .nilFunc
  | agg {cs : List AV} (vs : Array Value) : vs.size = cs.length → (∀ (j : Nat) (x : AV) (v : Value), cs[j]? = some x → vs[j]? = some v → RepA G x v) →
      (∀ (j : Nat) (v : Value), vs[j]? = some v → oneC v = true) → RepA G (.agg cs) (.agg vs)
  | tup {cs : List AV} (vs : Array Value) : vs.size = cs.length → (∀ (j : Nat) (x : AV) (v : Value), cs[j]? = some x → vs[j]? = some v → RepA G x v) →
      RepA G (.tup cs) (.tuple vs)
  | gd {b : Bool} {x : AV} {v : Value} : (b = true → RepA G x v) → (b = false → v = undef) → RepA G (.gd b x) v
  | any (v : Value) : RepA G .any v

theorem RepA.mono {G G' : Gh} (h : G.le G') {x : AV} {v : Value} (r : RepA G x v) : RepA G' x v := by
  induction r with
  | d r => exact .d (r.mono h.imm)
  | sl r t => exact .sl (r.mono h.imm) (t.mono h)
  | nils => exact .nils
  | ptr off hl => exact .ptr off (h.loc _ _ hl)
  | iptr a vs h1 h2 h3 => exact .iptr a vs h1 (fun j d hd => h.imm _ _ (h2 j d hd)) (fun j d hd => (h3 j d hd).mono h.imm)
  | nilp => exact .nilp
  | row off n cap hl => exact .row off n cap (h.loc _ _ hl)
  | bm a cap hr hz => exact .bm a cap (h.rt _ _ _ hr) hz
  | bp p cap k hr => exact .bp p cap k (h.rt _ _ _ hr)
  | fn f fs cs h1 h2 _ _ ih1 ih2 => exact .fn f fs cs h1 h2 ih1 ih2
  | nilf => exact .nilf
  | agg vs h1 _ h3 ih => exact .agg vs h1 ih h3
  | tup vs h1 _ ih => exact .tup vs h1 ih
  | gd _ hu ih => exact .gd ih hu
  | any v => exact .any v

/-- What stands in a concrete row of cells, read as abstract cells. -/
def RowAt (G : Gh) (w : World) (b : Nat) (cells : List AV) : Prop :=
  ∀ (j : Nat) (c : AV), cells[j]? = some c → ∃ v, w.cell? ⟨b, j, none⟩ = some v ∧ oneC v = true ∧ RepA G c v ∧ w.frozen? ⟨b, j, none⟩ = false

def SpareOk (G : Gh) (w : World) (i : Nat) (sz n cap : Nat) (a : Option Addr) : Prop :=
  n < cap → ∃ p : Addr, a = some p ∧ p.spot = none ∧ G.own p.block = some i ∧
    ∀ j, n * sz ≤ j → j < cap * sz → (∃ v, w.cell? (p.add j) = some v) ∧ w.frozen? (p.add j) = false ∧ G.imm (p.add j) = none

/-- A row that its object owns, may write and may append to. -/
def BufOk (G : Gh) (w : World) (i sz n cap : Nat) (cells : List AV) (a : Option Addr) : Prop :=
  cells.length = n * sz ∧ n ≤ cap ∧ ((a = none → cap = 0) ∧ ∀ p, a = some p → p.spot = none) ∧ ∀ p, a = some p → 0 < cap → p.spot = none ∧ G.own p.block = some i ∧
    (∀ (j : Nat) (c : AV), cells[j]? = some c → ∃ v, w.cell? (p.add j) = some v ∧ oneC v = true ∧ RepA G c v) ∧
    ∀ j, j < cap * sz → (∃ v, w.cell? (p.add j) = some v) ∧ w.frozen? (p.add j) = false ∧ G.imm (p.add j) = none

def ObjRel (G : Gh) (w : World) (i : Nat) : AObj → Prop
  | .row cells => ∃ b, G.loc i = some b ∧ G.own b = some i ∧ RowAt G w b cells ∧ (∀ a : Addr, a.block = b → G.imm a = none) ∧ ∀ n, G.rt i n = none
  | .right sz n => ∃ a cap, G.rt i n = some (a, cap) ∧ n ≤ cap ∧ (∀ n', n < n' → G.rt i n' = none) ∧ SpareOk G w i sz n cap a
  | .buf sz n cells => ∃ a cap, G.rt i n = some (a, cap) ∧ (∀ n', n < n' → G.rt i n' = none) ∧ BufOk G w i sz n cap cells a
  | .dead => True
  | .room => G.loc i = none ∧ ∀ n, G.rt i n = none

structure Env where
  w0 : World
  G0 : Gh
  tab : TabOk G0.imm

def Env.K (E : Env) (b : Nat) : Prop := b < E.w0.heap.size ∧ E.G0.own b = none

structure WRel (E : Env) (G : Gh) (h : List AObj) (w : World) : Prop where
  le : E.G0.le G
  imm : ∀ a v, G.imm a = some v → w.cell? a = some v
  immNew : ∀ a v, G.imm a = some v → E.G0.imm a = some v ∨ ¬ E.K a.block
  keep : ∀ b, E.K b → w.heap[b]? = E.w0.heap[b]?
  size : E.w0.heap.size ≤ w.heap.size
  os : w.os = E.w0.os
  tape : w.tape = E.w0.tape
  output : w.output = E.w0.output
  own : ∀ b i, G.own b = some i → b < w.heap.size ∧ ¬ E.K b
  fresh : ∀ i, h.length ≤ i → G.loc i = none ∧ ∀ n, G.rt i n = none
  obj : ∀ i o, h[i]? = some o → ObjRel G w i o

def Rel (E : Env) (N : Nat) (τ : Nat → AV) (h : List AObj) (a : Act) (w : World) : Prop :=
  a.tmps.size = N ∧ a.defers = [] ∧ ∃ G, WRel E G h w ∧ ∀ t, RepA G (τ t) (a.tmps.getD t undef)

/-- What is known of a piece of code: from every concrete state that fits, it comes to an end that fits. -/
def AW (P : Program) (E : Env) (N : Nat) (c : Code) (Q : Exit → (Nat → AV) → List AObj → Prop) (τ : Nat → AV) (h : List AObj) : Prop :=
  ∀ a w, Rel E N τ h a w → c.wp P (fun ex a' w' => ∃ τ' h', Q ex τ' h' ∧ Rel E N τ' h' a' w') a w

def thenA (K : (Nat → AV) → List AObj → Prop) (Q : Exit → (Nat → AV) → List AObj → Prop) : Exit → (Nat → AV) → List AObj → Prop
  | .normal, τ, h => K τ h
  | e, τ, h => Q e τ h

def inBlockA (id : Nat) (Q : Exit → (Nat → AV) → List AObj → Prop) : Exit → (Nat → AV) → List AObj → Prop
  | .exit id', τ, h => bif Nat.beq id' id then Q .normal τ h else Q (.exit id') τ h
  | e, τ, h => Q e τ h

section rules
variable {P : Program} {E : Env} {N : Nat} {Q : Exit → (Nat → AV) → List AObj → Prop} {τ : Nat → AV} {h : List AObj}

theorem AW_mono {c : Code} {Q' : Exit → (Nat → AV) → List AObj → Prop} (hc : AW P E N c Q τ h) (hq : ∀ e τ h, Q e τ h → Q' e τ h) : AW P E N c Q' τ h :=
  fun a w r => wp_mono (hc a w r) fun _ _ _ ⟨τ', h', q, r'⟩ => ⟨τ', h', hq _ _ _ q, r'⟩

theorem AW_skip (hq : Q .normal τ h) : AW P E N .skip Q τ h := fun _ _ r => wp_skip ⟨τ, h, hq, r⟩
theorem AW_label {l : Nat} (hq : Q .normal τ h) : AW P E N (.label l) Q τ h := fun _ _ r => wp_label ⟨τ, h, hq, r⟩
theorem AW_exit {id : Nat} (hq : Q (.exit id) τ h) : AW P E N (.exit id) Q τ h := fun _ _ r => wp_exit ⟨τ, h, hq, r⟩
theorem AW_goto {l : Nat} (hq : Q (.goto l) τ h) : AW P E N (.goto l) Q τ h := fun _ _ r => wp_goto ⟨τ, h, hq, r⟩
theorem AW_ret (hq : Q .ret τ h) : AW P E N .ret Q τ h := fun _ _ r => wp_ret ⟨τ, h, hq, r⟩

theorem AW_seq {x y : Code} (hx : AW P E N x (thenA (fun τ h => AW P E N y Q τ h) Q) τ h) : AW P E N (.seq x y) Q τ h :=
  fun a w r => wp_seq (wp_mono (hx a w r) fun e a' w' ⟨τ', h', q, r'⟩ => by
    cases e with
    | normal => exact q a' w' r'
    | _ => exact ⟨τ', h', q, r'⟩)

theorem AW_block {id : Nat} {c : Code} (hc : AW P E N c (inBlockA id Q) τ h) : AW P E N (.block id c) Q τ h :=
  fun a w r => wp_block (wp_mono (hc a w r) fun e a' w' ⟨τ', h', q, r'⟩ => by
    cases e with
    | exit id' =>
      simp only [inBlockA] at q
      by_cases hid : id' = id
      · subst hid; simp only [Exit.inBlock, if_true]
        have hb : Nat.beq id' id' = true := Nat.beq_refl id'
        rw [hb] at q; exact ⟨τ', h', q, r'⟩
      · simp only [Exit.inBlock, hid, if_false]
        have hb : Nat.beq id' id = false := by
          cases hb : Nat.beq id' id with
          | false => rfl
          | true => exact absurd (Nat.eq_of_beq_eq_true hb) hid
        rw [hb] at q; exact ⟨τ', h', q, r'⟩
    | _ => exact ⟨τ', h', q, r'⟩)

def evA (τ : Nat → AV) (ofV : Value → AV) : Operand → AV
  | .tmp t => τ t
  | .const v => ofV v
  | .global g => match seatTab g with
    | some cs => .iptr cs
    | none => .any
  | .func f => .fn (.func f) [] []

theorem glob_rep {G : Gh} (h : TabOk G.imm) (g : Nat) : RepA G (match seatTab g with | some cs => .iptr cs | none => .any) (.pointer (some ⟨g, 0, none⟩)) := by
  split
  · rename_i cs hg
    obtain ⟨vs, hv⟩ := h g cs hg
    refine .iptr ⟨g, 0, none⟩ vs rfl (fun j d hd => ?_) (fun j d hd => (hv j d hd).2)
    have h1 := (hv j d hd).1
    have h2 : (⟨g, 0, none⟩ : Addr).add j = ⟨g, j, none⟩ := by
      unfold Addr.add
      split
      · rename_i h0; rw [h0]
      · simp
    rw [h2]; exact h1
  · exact .any _

theorem AW_cond {c : Operand} {x y : Code} {ofV : Value → AV} {b : Bool} (ho : ∀ G v, RepA G (ofV v) v) (hc : evA τ ofV c = .d (.bool b))
    (ht : b = true → AW P E N x Q τ h) (hf : b = false → AW P E N y Q τ h) : AW P E N (.cond c x y) Q τ h := by
  intro a w r
  obtain ⟨h1, h2, G, hw, ht'⟩ := r
  have hv : a.eval c = .bool b := by
    have : RepA G (evA τ ofV c) (a.eval c) := by
      cases c with
      | tmp t => exact ht' t
      | const v => exact ho G v
      | global g => exact glob_rep (E.tab.mono hw.le.imm) g
      | func f => exact .fn _ #[] #[] rfl rfl (fun j x v h => by simp at h) (fun j x v h => by simp at h)
    rw [hc] at this
    generalize a.eval c = u at this ⊢
    cases this with
    | d r => cases r; rfl
  refine wp_cond_split hv (fun hb => ht hb a w ⟨h1, h2, G, hw, ht'⟩) (fun hb => hf hb a w ⟨h1, h2, G, hw, ht'⟩)

/-- A loop: the states at a round's head are given by an index type, each with a list of slots' values and a heap. -/
theorem AW_loop {c : Code} {ι : Type} (S : ι → (Nat → AV)) (H : ι → List AObj) (inv : ι → Prop) (μ : ι → Nat) (x0 : ι) (h0 : inv x0)
    (hs : ∀ a w, Rel E N τ h a w → Rel E N (S x0) (H x0) a w)
    (round : ∀ x, inv x → AW P E N c (thenA (fun τ' h' => ∃ y, inv y ∧ μ y < μ x ∧ ∀ a w, Rel E N τ' h' a w → Rel E N (S y) (H y) a w) Q) (S x) (H x)) :
    AW P E N (.loop c) Q τ h := by
  intro a w r b k cs
  have key : ∀ n x a w, μ x = n → inv x → Rel E N (S x) (H x) a w →
      ∃ e a' w', (∃ τ' h', Q e τ' h' ∧ Rel E N τ' h' a' w') ∧ Arrives P (lone (b.at a (.code c :: .inLoop c :: k)) cs w) b k cs e a' w' := by
    intro n
    induction n using Nat.strongRecOn with
    | _ n ih =>
      intro x a w hn hI hr
      obtain ⟨e, a₁, w₁, ⟨τ', h', hq, hr'⟩, harr⟩ := round x hI a w hr b (.inLoop c :: k) cs
      cases e with
      | normal =>
        obtain ⟨y, hy, hlt, hsub⟩ := hq
        obtain ⟨e₂, a₂, w₂, hq₂, harr₂⟩ := ih (μ y) (hn ▸ hlt) y a₁ w₁ rfl hy (hsub _ _ hr')
        exact ⟨e₂, a₂, w₂, hq₂, .of_steps (Steps.trans harr (.one step_inLoop)) harr₂⟩
      | exit id => exact ⟨_, a₁, w₁, ⟨τ', h', hq, hr'⟩, .pass (x := .inLoop c) rfl (fun _ _ => .inl (by simp)) harr⟩
      | goto l => exact ⟨_, a₁, w₁, ⟨τ', h', hq, hr'⟩, .pass (x := .inLoop c) rfl (fun _ _ => .inl (by simp)) harr⟩
      | ret => exact ⟨_, a₁, w₁, ⟨τ', h', hq, hr'⟩, .pass (x := .inLoop c) rfl (fun _ _ => .inl (by simp)) harr⟩
      | panic ch => exact ⟨_, a₁, w₁, ⟨τ', h', hq, hr'⟩, .pass (x := .inLoop c) rfl (fun _ _ => .inl (by simp)) harr⟩
      | outgrown => exact ⟨_, a₁, w₁, ⟨τ', h', hq, hr'⟩, .pass (x := .inLoop c) rfl (fun _ _ => .inl (by simp)) harr⟩
  obtain ⟨e, a', w', hq, harr⟩ := key _ x0 a w rfl h0 (hs a w r)
  exact ⟨e, a', w', hq, .of_steps (.one step_loop) harr⟩

/-- The state may be told with less. -/
theorem AW_sub {c : Code} {τ' : Nat → AV} {h' : List AObj} (hs : ∀ a w, Rel E N τ h a w → Rel E N τ' h' a w) (hc : AW P E N c Q τ' h') : AW P E N c Q τ h :=
  fun a w r => hc a w (hs a w r)
end rules
end Tdoc
