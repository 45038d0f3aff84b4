/- The pure operations: a function that tells the abstract value of an operation, and that it tells it rightly. No program is named here. -/
import Derived.Test.YtkkfcpohiofinaaDoorA1
import Derived.Laws.Entries
import Derived.Laws.Strings
import Derived.Laws.Concat
set_option linter.unusedSimpArgs false
set_option linter.unusedVariables false
namespace Tdoc
open Go

inductive TK where
  | int (k : IntKind)
  | bool
  | str
  | slice (e : Nat)
  | ptr
  | struct (fs : List (Nat × Nat × Bool))
  | array (n e : Nat)
  | fn
  | other

structure TI where
  kind : TK
  size : Nat
  bytes : Nat
  zero : List AV

def TI.agg (i : TI) : Bool := match i.kind with
  | .struct _ | .array _ _ => true
  | _ => false

inductive Tr where
  | lf
  | nd (l : Tr) (k : Nat) (v : TI) (r : Tr)

def Tr.find : Tr → Nat → Option TI
  | .lf, _ => none
  | .nd l k v r, t => match Nat.beq t k with
    | true => some v
    | false => match Nat.blt t k with
      | true => l.find t
      | false => r.find t

def kIx : IntKind → Nat
  | .i8 => 0 | .i16 => 1 | .i32 => 2 | .i64 => 3 | .u8 => 4 | .u16 => 5 | .u32 => 6 | .u64 => 7
def kEq (a b : IntKind) : Bool := Nat.beq (kIx a) (kIx b)
theorem kEq_eq {a b : IntKind} (h : kEq a b = true) : a = b := by cases a <;> cases b <;> first | rfl | (exact absurd h (by decide))

/-- A zero cell of the table and of the program. -/
def zrep : AV → Value → Bool
  | .d (.int k n), .int k' n' => kEq k k' && n == n'
  | .d (.bool b), .bool b' => b == b'
  | .d (.str []), .string s => s.data.toList.isEmpty
  | .sl _ [] .full, .slice none 0 0 => true
  | .nilp, .pointer none => true
  | .nilf, .nilFunc => true
  | _, _ => false

def zrepL : List AV → List Value → Bool
  | [], [] => true
  | a :: l, v :: r => zrep a v && zrepL l r
  | _, _ => false

theorem zrep_ok {a : AV} {v : Value} (h : zrep a v = true) (G : Gh) : RepA G a v ∧ oneC v = true := by
  unfold zrep at h
  split at h
  · simp only [Bool.and_eq_true, beq_iff_eq] at h
    obtain ⟨h1, rfl⟩ := h
    obtain rfl := kEq_eq h1
    exact ⟨.d (.int _ _), rfl⟩
  · simp only [beq_iff_eq] at h; subst h; exact ⟨.d (.bool _), rfl⟩
  · rename_i s
    obtain ⟨⟨l⟩⟩ := s
    simp only [List.isEmpty_iff] at h
    subst h
    exact ⟨.d (.str []), rfl⟩
  · exact ⟨.sl (.nil _) ⟨none, rfl⟩, rfl⟩
  · exact ⟨.nilp, rfl⟩
  · exact ⟨.nilf, rfl⟩
  · cases h

theorem zrepL_ok : ∀ {l : List AV} {r : List Value}, zrepL l r = true → l.length = r.length ∧ ∀ (G : Gh) (j : Nat) (a : AV) (v : Value), l[j]? = some a → r[j]? = some v → RepA G a v ∧ oneC v = true
  | [], [], _ => ⟨rfl, fun _ _ _ _ h => by simp at h⟩
  | a :: l, v :: r, h => by
    simp only [zrepL, Bool.and_eq_true] at h
    have ih := zrepL_ok h.2
    refine ⟨by simp [ih.1], fun G j x y hx hy => ?_⟩
    cases j with
    | zero => simp at hx hy; subst hx; subst hy; exact zrep_ok h.1 G
    | succ j => simp at hx hy; exact ih.2 G j x y hx hy

def fieldsOf (P : Program) : List Field → List (Nat × Nat × Bool) → Bool
  | [], [] => true
  | f :: r, (o, s, a) :: l => Nat.beq f.offset o && (match P.info? f.type with | some i => Nat.beq i.size s | none => false) &&
      (match P.underlying f.type with | some (.struct _) | some (.array _ _) => a | some _ => !a | none => false) && fieldsOf P r l
  | _, _ => false

def kindOk (P : Program) : TK → TypeDesc → Bool
  | .int k, .int k' => kEq k k'
  | .bool, .bool => true
  | .str, .string => true
  | .slice e, .slice e' => Nat.beq e e'
  | .ptr, .pointer _ => true
  | .struct fs, .struct fields => fieldsOf P fields.toList fs
  | .array n e, .array n' e' => Nat.beq n n' && Nat.beq e e'
  | .fn, .func _ _ _ => true
  | _, _ => false

def infoOk (i : TI) (info : TypeInfo) : Bool :=
  Nat.beq info.size i.size && Nat.beq info.bytes i.bytes && (match info.zero with | some z => zrepL i.zero z.cells.toList | none => false)

def typeOk (P : Program) (t : Nat) (i : TI) : Bool :=
  (match P.info? t with | some info => infoOk i info | none => false) && (match P.underlying t with | some d => kindOk P i.kind d | none => false)

def Tr.all (p : Nat → TI → Bool) : Tr → Bool
  | .lf => true
  | .nd l k v r => p k v && l.all p && r.all p

theorem Tr.find_all {p : Nat → TI → Bool} : ∀ {T : Tr} {t : Nat} {i : TI}, T.all p = true → T.find t = some i → p t i = true
  | .lf, _, _, _, h => by simp [Tr.find] at h
  | .nd l k v r, t, i, ha, h => by
    simp only [Tr.all, Bool.and_eq_true] at ha
    unfold Tr.find at h
    split at h
    · rename_i hb
      obtain rfl := Nat.eq_of_beq_eq_true hb
      simp only [Option.some.injEq] at h; subst h; exact ha.1.1
    · split at h
      · exact find_all ha.1.2 h
      · exact find_all ha.2 h

structure TOk (P : Program) (T : Tr) : Prop where
  all : T.all (typeOk P) = true

structure TypeAt (P : Program) (t : Nat) (i : TI) : Prop where
  info : ∃ info, P.info? t = some info ∧ info.size = i.size ∧ info.bytes = i.bytes ∧ ∃ z, info.zero = some z ∧ zrepL i.zero z.cells.toList = true
  und : ∃ d, P.underlying t = some d ∧ kindOk P i.kind d = true

theorem TOk.at {P : Program} {T : Tr} (h : TOk P T) {t : Nat} {i : TI} (hf : T.find t = some i) : TypeAt P t i := by
  have := Tr.find_all h.all hf
  unfold typeOk at this
  simp only [Bool.and_eq_true] at this
  obtain ⟨h1, h2⟩ := this
  constructor
  · split at h1
    · rename_i info hi
      simp only [infoOk, Bool.and_eq_true] at h1
      obtain ⟨⟨ha, hb⟩, hc⟩ := h1
      refine ⟨info, hi, Nat.eq_of_beq_eq_true ha, Nat.eq_of_beq_eq_true hb, ?_⟩
      split at hc
      · rename_i z hz; exact ⟨z, hz, hc⟩
      · cases hc
    · cases h1
  · split at h2
    · rename_i d hd; exact ⟨d, hd, h2⟩
    · cases h2

section runs
variable {P : Program} {t : Nat} {i : TI} {w : World}

theorem TypeAt.run_size (h : TypeAt P t i) : (Go.sizeOf t).run P w = .ok i.size w := by
  obtain ⟨info, hi, hs, _⟩ := h.info
  simp [Go.sizeOf, typeInfo, hi, hs]
theorem TypeAt.run_info (h : TypeAt P t i) : ∃ info, (typeInfo t).run P w = .ok info w ∧ info.bytes = i.bytes := by
  obtain ⟨info, hi, hs, hb, _⟩ := h.info
  exact ⟨info, by simp [typeInfo, hi], hb⟩
theorem TypeAt.run_und (h : TypeAt P t i) : ∃ d, (underlying t).run P w = .ok d w ∧ kindOk P i.kind d = true := by
  obtain ⟨d, hd, hk⟩ := h.und
  exact ⟨d, run_underlying hd w, hk⟩
theorem TypeAt.run_zero (h : TypeAt P t i) : ∃ z, (zeroValue t).run P w = .ok z w ∧ zrepL i.zero z.cells.toList = true := by
  obtain ⟨info, hi, _, _, z, hz, hc⟩ := h.info
  exact ⟨z, by simp [zeroValue, typeInfo, hi, hz], hc⟩
theorem TypeAt.run_agg (h : TypeAt P t i) : (isAgg t).run P w = .ok i.agg w := by
  obtain ⟨d, hd, hk⟩ := h.und
  unfold isAgg TI.agg
  rw [Sem.run_bind, run_underlying hd w]
  cases hkd : i.kind <;> rw [hkd] at hk <;> cases d <;> simp_all [kindOk]
end runs

/-- The value of a literal. -/
def ofVal : Value → AV
  | .int k n => .d (.int k n)
  | .bool b => .d (.bool b)
  | .string s => .d (.str s.data.toList)
  | .pointer none => .nilp
  | .slice none 0 0 => .nils
  | .nilFunc => .nilf
  | _ => .any

theorem ofVal_ok (G : Gh) (v : Value) : RepA G (ofVal v) v := by
  unfold ofVal
  split
  · exact .d (.int _ _)
  · exact .d (.bool _)
  · rename_i s; obtain ⟨⟨l⟩⟩ := s; exact .d (.str l)
  · exact .nilp
  · exact .nils
  · exact .nilf
  · exact .any _

abbrev ev (τ : Nat → AV) : Operand → AV := evA τ ofVal

section inv
variable {G : Gh} {v : Value}
theorem RepA.int_inv {k : IntKind} {n : Int} (h : RepA G (.d (.int k n)) v) : v = .int k n := by cases h with | d r => cases r; rfl
theorem RepA.bool_inv {b : Bool} (h : RepA G (.d (.bool b)) v) : v = .bool b := by cases h with | d r => cases r; rfl
theorem RepA.str_inv {s : List UInt8} (h : RepA G (.d (.str s)) v) : v = .string ⟨s.toArray⟩ := by cases h with | d r => cases r; rfl
theorem RepA.gd_inv {b : Bool} {x : AV} (h : RepA G (.gd b x) v) (hb : b = true) : RepA G x v := by cases h with | gd r _ => exact r hb
theorem RepA.gd_undef {b : Bool} {x : AV} (h : RepA G (.gd b x) v) (hb : b = false) : v = undef := by cases h with | gd _ r => exact r hb
theorem RepA.ptr_inv {i off : Nat} (h : RepA G (.ptr i off) v) : ∃ b, v = .pointer (some ⟨b, off, none⟩) ∧ G.loc i = some b := by cases h with | ptr _ r => exact ⟨_, rfl, r⟩
end inv

/-- An operation that neither reads nor changes the abstract heap, and leaves the world alone. -/
def OpP (P : Program) (o : Oper) (ρ : Operand → AV) (v : AV) : Prop :=
  ∀ (G : Gh) (e : Operand → Value) (w : World), (∀ a x, G.imm a = some x → w.cell? a = some x) → (∀ x, x ∈ o.op.operands.toList → RepA G (ρ x) (e x)) →
    ∃ u, (execOp e o).run P w = .ok (.value u) w ∧ RepA G v u

/-! ### integers, bools, strings -/

def binInt (op : BinOp) (k : IntKind) (a b : Int) : Option (AV × Prop) :=
  match op with
  | .add => some (.d (.int k (k.wrap (a + b))), True)
  | .sub => some (.d (.int k (k.wrap (a - b))), True)
  | .mul => some (.d (.int k (k.wrap (a * b))), True)
  | .quo => some (.d (.int k (k.wrap (a.tdiv b))), b ≠ 0)
  | .rem => some (.d (.int k (a.tmod b)), b ≠ 0)
  | .and => some (.d (.int k (k.wrap (BitVec.ofInt k.bits a &&& BitVec.ofInt k.bits b).toNat)), True)
  | .or => some (.d (.int k (k.wrap (BitVec.ofInt k.bits a ||| BitVec.ofInt k.bits b).toNat)), True)
  | .xor => some (.d (.int k (k.wrap (BitVec.ofInt k.bits a ^^^ BitVec.ofInt k.bits b).toNat)), True)
  | .andNot => some (.d (.int k (k.wrap (BitVec.ofInt k.bits a &&& ~~~ BitVec.ofInt k.bits b).toNat)), True)
  | .eql => some (.d (.bool (a == b)), True)
  | .neq => some (.d (.bool (a != b)), True)
  | .lss => some (.d (.bool (decide (a < b))), True)
  | .leq => some (.d (.bool (decide (a ≤ b))), True)
  | .gtr => some (.d (.bool (decide (a > b))), True)
  | .geq => some (.d (.bool (decide (a ≥ b))), True)
  | _ => none

def binStr (op : BinOp) (a b : List UInt8) : Option (AV × Prop) :=
  match op with
  | .add => some (.d (.str (a ++ b)), a.length + b.length ≤ 9223372036854775807)
  | .eql => some (.d (.bool (a == b)), True)
  | .neq => some (.d (.bool (!(a == b))), True)
  | .lss => some (.d (.bool (Op.bytesLess a b)), True)
  | .leq => some (.d (.bool (Op.bytesLess a b || a == b)), True)
  | .gtr => some (.d (.bool (!(Op.bytesLess a b || a == b))), True)
  | .geq => some (.d (.bool (!Op.bytesLess a b)), True)
  | _ => none

def isCmp : BinOp → Bool
  | .eql | .neq => true
  | _ => false

def isBoolT (T : Tr) (t : Nat) : Bool := match T.find t with
  | some i => match i.kind with | .bool => true | _ => false
  | none => false

def binA (T : Tr) (op : BinOp) (t : Nat) (x y : AV) : Option (AV × Prop) :=
  match x with
  | .d (.int k a) => match y with
    | .d (.int k' b) => match op with
      | .shl => some (.d (.int k (k.wrap (a * 2 ^ (min b.toNat k.bits)))), 0 ≤ b)
      | .shr => some (.d (.int k (a.fdiv (2 ^ (min b.toNat k.bits)))), 0 ≤ b)
      | op => match kEq k k' with
        | true => binInt op k a b
        | false => none
    | _ => none
  | .d (.str a) => match y with
    | .d (.str b) => binStr op a b
    | _ => none
  | .d (.bool a) => match y with
    | .d (.bool b) => match isBoolT T t with
      | true => match op with
        | .eql => some (.d (.bool (a == b)), True)
        | .neq => some (.d (.bool (!(a == b))), True)
        | _ => none
      | false => none
    | _ => none
  | _ => none

theorem eqGuard_run {P : Program} {w : World} (op : BinOp) (t : TypeId) (x y : Operand) (a b : Value) (h1 : ∀ z, a = .nilIface → b = z → z ≠ .nilIface) (h2 : ∀ c d, a = .agg c → b ≠ .agg d) :
    (eqGuard op t x y a b).run P w = .ok () w := by
  unfold eqGuard
  cases op <;> simp
  all_goals
    split
    · exact absurd rfl (h1 _ rfl rfl)
    · exact absurd rfl (h2 _ _ rfl)
    · simp

theorem eqGuard_int {P : Program} {w : World} (op : BinOp) (t : TypeId) (x y : Operand) (k k' : IntKind) (a b : Int) : (eqGuard op t x y (.int k a) (.int k' b)).run P w = .ok () w :=
  eqGuard_run _ _ _ _ _ _ (by simp) (by simp)
theorem eqGuard_str {P : Program} {w : World} (op : BinOp) (t : TypeId) (x y : Operand) (a b : ByteArray) : (eqGuard op t x y (.string a) (.string b)).run P w = .ok () w :=
  eqGuard_run _ _ _ _ _ _ (by simp) (by simp)
theorem eqGuard_bool {P : Program} {w : World} (op : BinOp) (t : TypeId) (x y : Operand) (a b : Bool) : (eqGuard op t x y (.bool a) (.bool b)).run P w = .ok () w :=
  eqGuard_run _ _ _ _ _ _ (by simp) (by simp)

theorem binInt_run {P : Program} {w : World} {G : Gh} {op : BinOp} {k : IntKind} {a b : Int} {v : AV} {C : Prop} (hne : op ≠ .shl ∧ op ≠ .shr) (h : binInt op k a b = some (v, C)) (hC : C) (t : TypeId) :
    ∃ u, (Go.binOp op t (.int k a) (.int k b)).run P w = .ok u w ∧ RepA G v u := by
  cases op <;> simp only [binInt, Option.some.injEq, Prod.mk.injEq] at h <;> try (exact absurd rfl hne.1) 
  all_goals try (exact absurd rfl hne.2)
  all_goals obtain ⟨rfl, rfl⟩ := h
  all_goals simp only [Go.binOp, ne_eq, not_true_eq_false, if_false, Op.intArith, Op.intDiv, Op.intBits, Op.intCmp]
  all_goals first
    | exact ⟨_, rfl, .d (.int _ _)⟩
    | exact ⟨_, rfl, .d (.bool _)⟩
    | (simp only [if_neg hC]; exact ⟨_, rfl, .d (.int _ _)⟩)

theorem ba_size (s : List UInt8) : (⟨s.toArray⟩ : ByteArray).size = s.length := by simp [ByteArray.size]

theorem binStr_run {P : Program} {w : World} {G : Gh} {op : BinOp} {a b : List UInt8} {v : AV} {C : Prop} (h : binStr op a b = some (v, C)) (hC : C) (t : TypeId) :
    ∃ u, (Go.binOp op t (.string ⟨a.toArray⟩) (.string ⟨b.toArray⟩)).run P w = .ok u w ∧ RepA G v u := by
  cases op <;> simp only [binStr, Option.some.injEq, Prod.mk.injEq, reduceCtorEq] at h
  all_goals obtain ⟨rfl, rfl⟩ := h
  all_goals simp only [Go.binOp, Op.stringOp, ByteArray.toList_mk]
  case add =>
    rw [ba_size, ba_size, if_neg (by simp [IntKind.max, IntKind.signed, IntKind.bits]; omega)]
    exact ⟨_, rfl, by rw [ByteArray.mk_append_mk]; exact .d (.str _)⟩
  all_goals exact ⟨_, rfl, .d (.bool _)⟩

theorem und_of_bool {P : Program} {T : Tr} (hT : TOk P T) {t : Nat} (h : isBoolT T t = true) : P.underlying t = some .bool := by
  unfold isBoolT at h
  split at h
  · rename_i i hi
    split at h
    · rename_i hk
      obtain ⟨d, hd, hkd⟩ := (hT.at hi).und
      rw [hk] at hkd
      cases d <;> simp [kindOk] at hkd
      exact hd
    · cases h
  · cases h

theorem binA_ok {P : Program} {T : Tr} (hT : TOk P T) {o : Oper} {op : BinOp} {t yt : Nat} {x y : Operand} (ho : o.op = .binOp op t x y yt) {ρ : Operand → AV} {v : AV} {C : Prop}
    (h : binA T op t (ρ x) (ρ y) = some (v, C)) (hC : C) : OpP P o ρ v := by
  intro G e w hi hr
  have hx : RepA G (ρ x) (e x) := hr x (by simp [ho, Op.operands])
  have hy : RepA G (ρ y) (e y) := hr y (by simp [ho, Op.operands])
  unfold execOp
  simp only [ho, Sem.run_bind]
  unfold binA at h
  split at h
  · rename_i k a hxe
    rw [hxe] at hx
    rw [hx.int_inv]
    split at h
    · rename_i k' b hye
      rw [hye] at hy
      rw [hy.int_inv, eqGuard_int]
      split at h
      · simp only [Option.some.injEq, Prod.mk.injEq] at h
        obtain ⟨rfl, rfl⟩ := h
        simp only [Result.andThen_ok, Go.binOp, Op.shift, if_neg (Int.not_lt.2 hC)]
        exact ⟨_, rfl, .d (.int _ _)⟩
      · simp only [Option.some.injEq, Prod.mk.injEq] at h
        obtain ⟨rfl, rfl⟩ := h
        simp only [Result.andThen_ok, Go.binOp, Op.shift, if_neg (Int.not_lt.2 hC)]
        exact ⟨_, rfl, .d (.int _ _)⟩
      · rename_i hn1 hn2
        split at h
        · rename_i hk
          obtain rfl := kEq_eq hk
          obtain ⟨u, hu, hru⟩ := binInt_run (P := P) (w := w) (G := G) ⟨hn1, hn2⟩ h hC t
          exact ⟨u, by simp [hu], hru⟩
        · cases h
    · cases h
  · rename_i a hxe
    rw [hxe] at hx
    rw [hx.str_inv]
    split at h
    · rename_i b hye
      rw [hye] at hy
      rw [hy.str_inv, eqGuard_str]
      obtain ⟨u, hu, hru⟩ := binStr_run (P := P) (w := w) (G := G) h hC t
      exact ⟨u, by simp [hu], hru⟩
    · cases h
  · rename_i a hxe
    rw [hxe] at hx
    rw [hx.bool_inv]
    split at h
    · rename_i b hye
      rw [hye] at hy
      rw [hy.bool_inv, eqGuard_bool]
      split at h
      · rename_i hb
        have hu := und_of_bool hT hb
        have he : (Op.equal t (.bool a) (.bool b)).run P w = .ok (a == b) w := by
          show (Op.equalIn (9999 + 1) t (.bool a) (.bool b)).run P w = _
          rw [Op.equalIn]
          simp [run_underlying hu]
        split at h
        · simp only [Option.some.injEq, Prod.mk.injEq] at h
          obtain ⟨rfl, rfl⟩ := h
          exact ⟨_, by simp [Go.binOp, he], .d (.bool _)⟩
        · simp only [Option.some.injEq, Prod.mk.injEq] at h
          obtain ⟨rfl, rfl⟩ := h
          exact ⟨_, by simp [Go.binOp, he], .d (.bool _)⟩
        · cases h
      · cases h
    · cases h
  · cases h

def unA (op : UnOp) (x : AV) : Option AV :=
  match op with
  | .not => match x with
    | .d (.bool b) => some (.d (.bool (!b)))
    | _ => none
  | .neg => match x with
    | .d (.int k n) => some (.d (.int k (k.wrap (0 - n))))
    | _ => none
  | .xor => match x with
    | .d (.int k n) => some (.d (.int k (k.wrap (BitVec.ofInt k.bits (if k.signed then -1 else k.max) ^^^ BitVec.ofInt k.bits n).toNat)))
    | _ => none
  | _ => none

theorem unA_ok {P : Program} {o : Oper} {op : UnOp} {t : Nat} {x : Operand} (ho : o.op = .unOp op t x) {ρ : Operand → AV} {v : AV} (h : unA op (ρ x) = some v) : OpP P o ρ v := by
  intro G e w hi hr
  have hx : RepA G (ρ x) (e x) := hr x (by simp [ho, Op.operands])
  unfold execOp
  simp only [ho, Sem.run_bind]
  unfold unA at h
  split at h
  · split at h
    · rename_i hxe; rw [hxe] at hx; rw [hx.bool_inv]; cases h; exact ⟨_, rfl, .d (.bool _)⟩
    · cases h
  · split at h
    · rename_i hxe; rw [hxe] at hx; rw [hx.int_inv]; cases h; exact ⟨_, rfl, .d (.int _ _)⟩
    · cases h
  · split at h
    · rename_i hxe; rw [hxe] at hx; rw [hx.int_inv]; cases h; exact ⟨_, rfl, .d (.int _ _)⟩
    · cases h
  · cases h
end Tdoc
