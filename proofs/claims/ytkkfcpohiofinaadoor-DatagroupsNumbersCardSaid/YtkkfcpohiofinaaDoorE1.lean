/- Objects with tags as data; which tags there are; what the program's check says; encodings. Plain. -/
import Derived.Test.YtkkfcpohiofinaaDoorC1
import Derived.Test.YtkkfcpohiofinaaDoorD1
import Derived.Test.YtkkfcpohiofinaaDoorN1
import Derived.Test.YtkkfcpohiofinaaDoorR5
set_option linter.unusedVariables false
set_option linter.unusedSimpArgs false
namespace Tdoc
open Go Go.Proofs

/-- Bytes as elements. -/
def encB (s : List UInt8) : List (List Dat) := s.map fun b => [.int .u8 (b.toNat : Int)]
theorem encB_length (s : List UInt8) : (encB s).length = s.length := by simp [encB]
theorem encB_append (a b : List UInt8) : encB (a ++ b) = encB a ++ encB b := by simp [encB]
theorem encB_at {s : List UInt8} {i : Nat} (h : i < s.length) : (encB s)[i]? = some [.int .u8 (s[i].toNat : Int)] := by simp [encB, h]
theorem encB_take (s : List UInt8) (i : Nat) : (encB s).take i = encB (s.take i) := by simp [encB, List.map_take]
theorem encB_drop (s : List UInt8) (i : Nat) : (encB s).drop i = encB (s.drop i) := by simp [encB, List.map_drop]

inductive Node where
  | mk (tag : Int) (val : List UInt8) (kids : List Node)

mutual
def encN : Node → List Dat
  | .mk t v k => [.int .i64 t, .sl 1 (encB v), .sl 3 (encNs k)]
def encNs : List Node → List (List Dat)
  | [] => []
  | a :: l => encN a :: encNs l
end
def nAV (n : Node) : AV := .agg ((encN n).map .d)
theorem encNs_eq : ∀ (l : List Node), encNs l = l.map encN
  | [] => rfl
  | a :: l => by simp [encNs, encNs_eq l]
theorem encNs_length (l : List Node) : (encNs l).length = l.length := by rw [encNs_eq]; simp
theorem encNs_append (a b : List Node) : encNs (a ++ b) = encNs a ++ encNs b := by simp [encNs_eq]
theorem low_nAV (k : Nat) (n : Node) : low k (nAV n) = true := lowL_d (encN n)

/-! tags -/
def tagOk (t : Int) : Bool :=
  if t < 256 then decide (0 < t) && !(t % 32 == 31) else decide (t < 65536) && (t / 256 % 32 == 31) && decide (1 ≤ t % 256) && decide (t % 256 ≤ 127)
def tagCons (t : Int) : Bool := tagOk t && ((if t > 255 then t / 256 else t) / 32 % 2 == 1)
theorem tagOk_range {t : Int} (h : tagOk t = true) : 0 < t ∧ t < 65536 := by
  unfold tagOk at h
  split at h
  · simp at h; omega
  · simp at h; omega

/-! the check: an error's number, and how many objects were met -/
mutual
def chkN (d : Nat) : Node → Nat → Int × Nat
  | .mk t v k, c =>
    if tagOk t = false then (4, c + 1)
    else if (tagCons t = false ∧ k ≠ []) ∨ (tagCons t = true ∧ v ≠ []) then (1, c + 1)
    else if 8 < d then (7, c + 1)
    else chkL (d + 1) k (c + 1)
def chkL (d : Nat) : List Node → Nat → Int × Nat
  | [], c => (0, c)
  | a :: l, c => if (chkN d a c).1 = 0 then chkL d l (chkN d a c).2 else chkN d a c
end

mutual
def sizeN : Node → Nat
  | .mk _ _ k => 1 + sizeL k
def sizeL : List Node → Nat
  | [] => 0
  | a :: l => sizeN a + sizeL l
end

mutual
theorem chkN_count (d : Nat) : ∀ (n : Node) (c : Nat), (chkN d n c).2 ≤ c + sizeN n ∧ ((chkN d n c).1 = 0 → (chkN d n c).2 = c + sizeN n)
  | .mk t v k, c => by
    have hk := chkL_count (d + 1) k (c + 1)
    rw [chkN, sizeN]
    split
    · exact ⟨by simp only; omega, fun h => by simp at h⟩
    · split
      · exact ⟨by simp only; omega, fun h => by simp at h⟩
      · split
        · exact ⟨by simp only; omega, fun h => by simp at h⟩
        · exact ⟨by omega, fun h => by have := hk.2 h; omega⟩
theorem chkL_count (d : Nat) : ∀ (l : List Node) (c : Nat), (chkL d l c).2 ≤ c + sizeL l ∧ ((chkL d l c).1 = 0 → (chkL d l c).2 = c + sizeL l)
  | [], c => by simp [chkL, sizeL]
  | a :: l, c => by
    have ha := chkN_count d a c
    have hl := chkL_count d l (chkN d a c).2
    rw [chkL, sizeL]
    split
    · rename_i h0
      have := ha.2 h0
      exact ⟨by omega, fun h => by have := hl.2 h; omega⟩
    · rename_i h0
      exact ⟨by omega, fun h => absurd h h0⟩
end

/-! encodings -/
def digL : Nat → Nat → List UInt8
  | 0, _ => []
  | m + 1, n => if n = 0 then [] else UInt8.ofNat (n % 256) :: digL m (n / 256)
theorem digL_zero (m : Nat) : digL m 0 = [] := by cases m <;> simp [digL]
theorem digL_length : ∀ (m n : Nat), (digL m n).length ≤ m
  | 0, _ => Nat.le_refl _
  | m + 1, n => by
    rw [digL]
    split
    · simp
    · have := digL_length m (n / 256); simp; omega
def digs (m n : Nat) : List UInt8 := (digL m n).reverse
def lenB (n : Nat) : List UInt8 := if n < 128 then [UInt8.ofNat n] else UInt8.ofNat (128 + (digs 8 n).length) :: digs 8 n
def tagB (t : Int) : List UInt8 := if t > 255 then [UInt8.ofNat (t / 256 % 256).toNat, UInt8.ofNat (t % 256).toNat] else [UInt8.ofNat (t % 256).toNat]

mutual
def wrN : Node → List UInt8
  | .mk t v k => tagB t ++ lenB (if tagCons t = true then wrL k else v).length ++ (if tagCons t = true then wrL k else v)
def wrL : List Node → List UInt8
  | [] => []
  | a :: l => wrN a ++ wrL l
end

def encodeP (l : List Node) : List UInt8 × Int :=
  if (chkL 1 l 0).1 ≠ 0 then ([], (chkL 1 l 0).1)
  else if (chkL 1 l 0).2 > 256 then ([], 2)
  else if (wrL l).length > 4096 then ([], 2)
  else (wrL l, 0)
end Tdoc
