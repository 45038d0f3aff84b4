/- Plain: characters, check digits, names, days and zones, as the functions compute them. -/
import Derived.Test.YtnjanpmgonoeeaaGreatDoorK3
import Derived.Test.YtnjanpmgonoeeaaGreatDoorK4
import Derived.Test.YtnjanpmgonoeeaaGreatDoorK2
set_option linter.unusedVariables false
set_option linter.unusedSimpArgs false
namespace Tdoc
open Go Go.Proofs

/-! characters -/
def valC (n : Int) : Int := if 48 ≤ n ∧ n ≤ 57 then n - 48 else if 65 ≤ n ∧ n ≤ 90 then n - 55 else if n = 60 then 0 else -1
theorem valC_range (n : Int) : -1 ≤ valC n ∧ valC n ≤ 35 := by unfold valC; split <;> (try split) <;> (try split) <;> omega
def bI (c : UInt8) : Int := (c.toNat : Int)
theorem bI_range (c : UInt8) : 0 ≤ bI c ∧ bI c < 256 := by have := UInt8.toNat_lt c; unfold bI; omega
def validS : List UInt8 → Bool
  | [] => true
  | c :: l => decide (0 ≤ valC (bI c)) && validS l
def wgtC (i : Nat) : Int := if i % 3 = 0 then 7 else if i % 3 = 1 then 3 else 1
def digSum : Nat → List UInt8 → Int
  | _, [] => 0
  | i, c :: l => wgtC i * valC (bI c) + digSum (i + 1) l
def digitS (s : List UInt8) : List UInt8 := [UInt8.ofNat (48 + digSum 0 s % 10).toNat]
def digitF (s : List UInt8) : List UInt8 × Int := if validS s = true then (digitS s, 0) else ([], 12)
theorem digSum_range : ∀ (i : Nat) (s : List UInt8), validS s = true → 0 ≤ digSum i s ∧ digSum i s ≤ 245 * s.length
  | i, [], _ => by simp [digSum]
  | i, c :: l, h => by
    simp only [validS, Bool.and_eq_true, decide_eq_true_eq] at h
    have ih := digSum_range (i + 1) l h.2
    have hv := valC_range (bI c)
    have hw : wgtC i = 7 ∨ wgtC i = 3 ∨ wgtC i = 1 := by unfold wgtC; split <;> (try split) <;> simp
    rw [digSum]
    simp only [List.length_cons]
    rcases hw with hw | hw | hw <;> rw [hw] <;> omega

/-! names: words with one byte between them; the flag says that the byte before is none or that byte -/
def nameL : Bool → List UInt8 → Bool
  | _, [] => true
  | b, c :: l => if c = 32 then !b && !l.isEmpty && nameL true l else decide (65 ≤ bI c ∧ bI c ≤ 90) && nameL false l
def fillS (s : List UInt8) : List UInt8 := s.map fun c => if c = 32 then 60 else c
def wideS (s : List UInt8) (n : Nat) : List UInt8 := s ++ List.replicate (n - s.length) 60
theorem wideS_length (s : List UInt8) (n : Nat) : (wideS s n).length = max s.length n := by simp [wideS]; omega
def namesS (sur giv : List UInt8) : List UInt8 := fillS sur ++ (if giv = [] then [] else [60, 60] ++ fillS giv)
def namesF (sur giv : List UInt8) (w : Int) : List UInt8 × Int :=
  if nameL true sur = false ∨ nameL true giv = false ∨ sur = [] then ([], 14)
  else if w < 1 ∨ w > 64 then ([], 2) else ((wideS (namesS sur giv) w.toNat).take w.toNat, 0)

/-! days -/
def leapR (y : Int) : Bool := decide (y.tmod 4 = 0) && decide (y ≠ 1900)
def longR (y m : Int) : Int := if m = 4 ∨ m = 6 ∨ m = 9 ∨ m = 11 then 30 else if m = 2 then (if leapR y = true then 29 else 28) else 31
theorem longR_range (y m : Int) : 28 ≤ longR y m ∧ longR y m ≤ 31 := by unfold longR; split <;> (try split) <;> (try split) <;> omega
def yearsR : Nat → Int
  | 0 => 0
  | k + 1 => yearsR k + 365 + (if leapR (1900 + (k : Int)) = true then 1 else 0)
def monthsR (y : Int) : Nat → Int
  | 0 => 0
  | k + 1 => monthsR y k + longR y ((k : Int) + 1)
def ofF (y m d : Int) : Int × Int := if y < 1900 ∨ y > 2099 ∨ m < 1 ∨ m > 12 ∨ d < 1 ∨ d > longR y m then (0, 8) else (d - 1 + yearsR (y - 1900).toNat + monthsR y (m - 1).toNat, 0)
theorem yearsR_range : ∀ (k : Nat), 0 ≤ yearsR k ∧ yearsR k ≤ 366 * k
  | 0 => by simp [yearsR]
  | k + 1 => by have := yearsR_range k; rw [yearsR]; split <;> omega
theorem monthsR_range (y : Int) : ∀ (k : Nat), 0 ≤ monthsR y k ∧ monthsR y k ≤ 31 * k
  | 0 => by simp [monthsR]
  | k + 1 => by have := monthsR_range y k; have := longR_range y ((k : Int) + 1); rw [monthsR]; omega
def isDig (c : UInt8) : Bool := decide (48 ≤ bI c ∧ bI c ≤ 57)
def pairI (s : List UInt8) (i : Nat) : Int := 10 * (bI (s.getD i 0) - 48) + (bI (s.getD (i + 1) 0) - 48)
def dayParse (s : List UInt8) (first : Int) : Int × Int :=
  if first < 1900 ∨ first > 2000 then (0, 3) else if s.length ≠ 6 then (0, 1) else if s.all isDig = false then (0, 1)
  else let y := first - first.tmod 100 + pairI s 0
    ofF (if y < first then y + 100 else y) (pairI s 2) (pairI s 4)

/-! zones -/
structure Zon where
  fmt : Int
  kind : List UInt8
  state : List UInt8
  sur : List UInt8
  giv : List UInt8
  num : List UInt8
  nat : List UInt8
  bir : List UInt8
  sex : List UInt8
  exp : List UInt8
  opt : List UInt8
  sec : List UInt8
def zCells (z : Zon) : List AV := [.d (.int .i64 z.fmt), .d (.str z.kind), .d (.str z.state), .d (.str z.sur), .d (.str z.giv), .d (.str z.num), .d (.str z.nat), .d (.str z.bir), .d (.str z.sex), .d (.str z.exp), .d (.str z.opt), .d (.str z.sec)]
def zAV (z : Zon) : AV := .agg (zCells z)
def isUp (c : UInt8) : Bool := decide (65 ≤ bI c ∧ bI c ≤ 90)
def lettersF (s : List UInt8) (most : Int) : Bool := decide (1 ≤ s.length ∧ (s.length : Int) ≤ most) && s.all isUp
def plainF (s : List UInt8) : Bool := s.all fun c => decide (c ≠ 60 ∧ 0 ≤ valC (bI c))
def pairF (s : List UInt8) : Int := if s = [60, 60] then -1 else if isDig (s.getD 0 0) = true ∧ isDig (s.getD 1 0) = true then pairI s 0 else -2
def birthF (s : List UInt8) : Bool := decide (s.length = 6) && (decide (pairF (s.take 2) > -2) && (decide (pairF ((s.take 4).drop 2) = -1 ∨ 1 ≤ pairF ((s.take 4).drop 2) ∧ pairF ((s.take 4).drop 2) ≤ 12) && decide (pairF (s.drop 4) = -1 ∨ 1 ≤ pairF (s.drop 4) ∧ pairF (s.drop 4) ≤ 31)))
def extraF (s : List UInt8) : Bool := validS s && (decide (s = []) || (decide (s.head? ≠ some 60) && decide (s.getLast? ≠ some 60)))
def roomF (z : Zon) : Int := (if z.fmt = 1 then 15 else if z.fmt = 2 then 7 else 14) - (if z.num.length > 9 then (z.num.length : Int) - 9 + 2 else 0)
def mostN (f : Int) : Int := if f = 1 then 20 else if f = 2 then 14 else 9
def validZ (z : Zon) : Int :=
  if z.fmt < 1 ∨ z.fmt > 3 ∨ lettersF z.kind 2 = false ∨ lettersF z.state 3 = false ∨ nameL true z.sur = false ∨ z.sur = [] ∨ nameL true z.giv = false ∨ z.num = [] ∨ plainF z.num = false then 14
  else if (z.num.length : Int) > mostN z.fmt then 2
  else if lettersF z.nat 3 = false then 14
  else if birthF z.bir = false then 8
  else if z.sex ≠ [77] ∧ z.sex ≠ [70] ∧ z.sex ≠ [60] then 14
  else if (dayParse z.exp 2000).2 ≠ 0 then 8
  else if extraF z.opt = false ∨ extraF z.sec = false ∨ (z.sec ≠ [] ∧ z.fmt ≠ 1) then 14
  else if (z.opt.length : Int) > roomF z ∨ (z.sec.length : Int) > 11 then 2
  else 0
def checkedS (s : List UInt8) : List UInt8 := s ++ (digitF s).1
def numberS (n : List UInt8) : List UInt8 × List UInt8 := if n.length ≤ 9 then (checkedS (wideS n 9), []) else (n.take 9 ++ [60], n.drop 9 ++ (digitF n).1 ++ [60])
def nameW (f : Int) : Int := if f = 1 then 30 else if f = 2 then 31 else 39
def cutS (s : List UInt8) (a b : Nat) : List UInt8 := (s.take b).drop a
def buildZ (z : Zon) : List (List UInt8) :=
  let head := wideS z.kind 2 ++ wideS z.state 3
  let names := (namesF z.sur z.giv (nameW z.fmt)).1
  let bd := checkedS z.bir
  let ed := checkedS z.exp
  let nation := wideS z.nat 3
  if z.fmt = 1 then
    let a := head ++ (numberS z.num).1 ++ wideS ((numberS z.num).2 ++ z.opt) 15
    let b := bd ++ z.sex ++ ed ++ nation ++ wideS z.sec 11
    [a, b ++ (digitF (cutS a 5 30 ++ cutS b 0 7 ++ cutS b 8 15 ++ cutS b 18 29)).1, names]
  else if z.fmt = 2 then
    let b := (numberS z.num).1 ++ nation ++ bd ++ z.sex ++ ed ++ wideS ((numberS z.num).2 ++ z.opt) 7
    [head ++ names, b ++ (digitF (cutS b 0 10 ++ cutS b 13 20 ++ cutS b 21 35)).1]
  else
    let o := if z.opt = [] then [60] else (digitF (wideS z.opt 14)).1
    let b := (numberS z.num).1 ++ nation ++ bd ++ z.sex ++ ed ++ wideS z.opt 14 ++ o
    [head ++ names, b ++ (digitF (cutS b 0 10 ++ cutS b 13 20 ++ cutS b 21 43)).1]
def buildF (z : Zon) : List (List UInt8) × Int := if validZ z ≠ 0 then ([], validZ z) else (buildZ z, 0)
end Tdoc
/- Plain: templates, infos, details and the files made of them, as the reference computes them. -/
set_option linter.unusedVariables false
set_option linter.unusedSimpArgs false
namespace Tdoc
open Go Go.Proofs

def bOf (n : Int) : UInt8 := UInt8.ofNat (n % 256).toNat
theorem bOf_wrap (n : Int) : IntKind.u8.wrap n = ((bOf n).toNat : Int) := by
  rw [wrapu8_mod]; unfold bOf; rw [toNat_ofNat (by omega)]; omega
theorem shr_int8 (n : Int) : Int.fdiv n (2 ^ (min (8 : Int).toNat IntKind.i64.bits)) = n / 256 := by
  rw [show (2 ^ (min (8 : Int).toNat IntKind.i64.bits) : Int) = 256 from rfl, Int.fdiv_eq_ediv_of_nonneg _ (by omega)]
theorem bOf_hi (n : Int) : IntKind.u8.wrap (Int.fdiv n (2 ^ (min (8 : Int).toNat IntKind.i64.bits))) = ((bOf (n / 256)).toNat : Int) := by rw [shr_int8, bOf_wrap]

/-! templates -/
structure Tpl where
  kind : Int
  part : Int
  frm : Int
  til : Int
  fmt : Int
  qual : Int
  data : List UInt8
def encT (t : Tpl) : List Dat := [.int .i64 t.kind, .int .i64 t.part, .int .i64 t.frm, .int .i64 t.til, .int .i64 t.fmt, .int .i64 t.qual, .sl 1 (encB t.data)]
def encTs (l : List Tpl) : List (List Dat) := l.map encT
theorem encTs_length (l : List Tpl) : (encTs l).length = l.length := by simp [encTs]
theorem encTs_append (a b : List Tpl) : encTs (a ++ b) = encTs a ++ encTs b := by simp [encTs]
theorem encTs_at {l : List Tpl} {i : Nat} (h : i < l.length) : (encTs l)[((i : Int)).toNat]? = some (encT l[i]) := by simp [encTs, h]
def tCells (t : Tpl) : List AV := [.d (.int .i64 t.kind), .d (.int .i64 t.part), .d (.int .i64 t.frm), .d (.int .i64 t.til), .d (.int .i64 t.fmt), .d (.int .i64 t.qual), .d (.sl 1 (encB t.data))]
theorem tCells_eq (t : Tpl) : (encT t).map AV.d = tCells t := rfl
def tAV (t : Tpl) : AV := .agg (tCells t)
def mostT (k : Int) : Int := if k = 2 then 10 else if k = 3 then 2 else 0
def dayOk (n : Int) : Bool := decide (0 ≤ n ∧ n ≤ 73048)
def validT (t : Tpl) : Int :=
  if t.kind ≠ 1 ∧ t.kind ≠ 2 ∧ t.kind ≠ 3 then 14
  else if t.part < 0 ∨ t.part > mostT t.kind ∨ (mostT t.kind > 0 ∧ t.part = 0) then 14
  else if dayOk t.frm = false ∨ dayOk t.til = false ∨ t.frm > t.til then 8
  else if t.fmt < 0 ∨ t.fmt > 65535 ∨ t.qual < 0 ∨ t.qual > 100 then 3
  else if t.data.length < 1 ∨ t.data.length > 1024 then 2 else 0
theorem validT_ok {t : Tpl} (h : validT t = 0) : 0 ≤ t.frm ∧ t.frm ≤ 73048 ∧ 0 ≤ t.til ∧ t.til ≤ 73048 ∧ 0 ≤ t.fmt ∧ t.fmt ≤ 65535 ∧ 0 ≤ t.qual ∧ t.qual ≤ 100 ∧ 0 ≤ t.part ∧ t.part ≤ 10 ∧ 1 ≤ t.kind ∧ t.kind ≤ 3 ∧ 1 ≤ t.data.length ∧ t.data.length ≤ 1024 := by
  unfold validT at h
  split at h
  · exact absurd h (by omega)
  split at h
  · exact absurd h (by omega)
  split at h
  · exact absurd h (by omega)
  split at h
  · exact absurd h (by omega)
  split at h
  · exact absurd h (by omega)
  rename_i h1 h2 h3 h4 h5
  have hm : mostT t.kind ≤ 10 := by unfold mostT; split <;> (try split) <;> omega
  simp only [not_or, Bool.not_eq_false, dayOk, decide_eq_true_eq] at h3
  omega
def headT (t : Tpl) : List Node := [.mk 129 [bOf t.kind] [], .mk 130 [bOf t.part] [], .mk 131 (octB 4 t.frm.toNat) [], .mk 132 (octB 4 t.til.toNat) [], .mk 133 [bOf t.qual] [], .mk 136 [bOf (t.fmt / 256), bOf t.fmt] []]
def objT (t : Tpl) : Node := .mk 32608 [] [.mk 161 [] (headT t), .mk 24366 t.data []]
def firstT : List Tpl → Int
  | [] => 0
  | t :: l => if validT t ≠ 0 then validT t else firstT l
theorem firstT_append : ∀ (a b : List Tpl), firstT a = 0 → firstT (a ++ b) = firstT b
  | [], b, _ => rfl
  | t :: a, b, h => by
    rw [firstT] at h
    split at h
    · rename_i h1; exact absurd h h1
    · rename_i h1
      rw [List.cons_append, firstT, if_neg h1]; exact firstT_append a b h
theorem firstT_mem : ∀ {l : List Tpl}, firstT l = 0 → ∀ t ∈ l, validT t = 0
  | [], _, t, ht => by cases ht
  | a :: l, h, t, ht => by
    rw [firstT] at h
    split at h
    · rename_i h1; exact absurd h h1
    · rename_i h1
      rcases List.mem_cons.1 ht with rfl | ht
      · simpa using h1
      · exact firstT_mem h t ht
def kidsT (l : List Tpl) : List Node := .mk 2 [bOf (l.length : Int)] [] :: l.map objT
def encTR (l : List Tpl) : List Node × Int := if l.length < 1 ∨ l.length > 8 then ([], 2) else if firstT l ≠ 0 then ([], firstT l) else ([.mk 32609 [] (kidsT l)], 0)
def fitsT (n : Int) (l : List Tpl) : Bool := l.all fun t => decide (t.kind = n - 1)
def bioF (n : Int) (l : List Tpl) : List UInt8 × Int :=
  if n < 2 ∨ n > 4 then ([], 3) else if (encTR l).2 ≠ 0 then ([], (encTR l).2) else if fitsT n l = false then ([], 14) else wrapG n (encTR l).1

/-! infos -/
structure Inf where
  proto : Int
  ver : Int
  par : Int
  key : Int
  kid : Int
def encF (x : Inf) : List Dat := [.int .i64 x.proto, .int .i64 x.ver, .int .i64 x.par, .int .i64 x.key, .int .i64 x.kid]
def encFs (l : List Inf) : List (List Dat) := l.map encF
theorem encFs_length (l : List Inf) : (encFs l).length = l.length := by simp [encFs]
theorem encFs_append (a b : List Inf) : encFs (a ++ b) = encFs a ++ encFs b := by simp [encFs]
theorem encFs_at {l : List Inf} {i : Nat} (h : i < l.length) : (encFs l)[((i : Int)).toNat]? = some (encF l[i]) := by simp [encFs, h]
def fCells (x : Inf) : List AV := [.d (.int .i64 x.proto), .d (.int .i64 x.ver), .d (.int .i64 x.par), .d (.int .i64 x.key), .d (.int .i64 x.kid)]
def parI (p : Int) : Int := if p = 2 ∨ p = 3 then 31 else 0
def kidI (p : Int) : Int := if p = 4 then 255 else 0
def infE (x : Inf) : Int :=
  if x.proto < 2 ∨ x.proto > 6 then 14
  else if x.ver < 1 ∨ x.ver > 255 ∨ x.par < 0 ∨ x.par > parI x.proto ∨ x.kid < 0 ∨ x.kid > kidI x.proto then 3
  else if (x.proto = 4 ∧ elemG x.key = false) ∨ (x.proto ≠ 4 ∧ x.key ≠ 0) then 10 else 0
def infO (p x : Inf) : Bool := decide (x.proto < p.proto ∨ (x.proto = p.proto ∧ x.kid ≤ p.kid))
/-- The first error of infos behind one that is right. -/
def infL : Option Inf → List Inf → Int
  | _, [] => 0
  | p, x :: l => if infE x ≠ 0 then infE x else if (match p with | none => false | some p => infO p x) = true then 17 else infL (some x) l
theorem infL_nil (p : Option Inf) : infL p [] = 0 := by cases p <;> rfl
theorem infL_cons (p : Option Inf) (x : Inf) (l : List Inf) : infL p (x :: l) = if infE x ≠ 0 then infE x else if (match p with | none => false | some p => infO p x) = true then 17 else infL (some x) l := by cases p <;> rfl
def validI (l : List Inf) : Int := if l.length > 16 then 2 else infL none l
def idB (p : Int) : List UInt8 := [4, 0, 127, 0, 7, 2, 2] ++ (if p = 2 then [4, 1] else if p = 3 then [4, 2] else if p = 4 then [3, 1] else if p = 5 then [2, 1] else [5, 1])
def objI (x : Inf) : Node := .mk 48 [] ([.mk 6 (idB x.proto) [], .mk 2 [bOf x.ver] []] ++ (if x.proto = 2 ∨ x.proto = 3 then [.mk 2 [bOf x.par] []] else if x.proto = 4 then [.mk 4 (octB 4 x.key.toNat) [], .mk 2 [bOf x.kid] []] else []))
def setI (l : List Inf) : Node := .mk 49 [] (l.map objI)
def infosF (l : List Inf) : List UInt8 × Int := if validI l ≠ 0 then ([], validI l) else wrapG 14 [setI l]

/-! details -/
structure Det where
  tag : Int
  text : List UInt8
def encD (x : Det) : List Dat := [.int .i64 x.tag, .str x.text]
def encDs (l : List Det) : List (List Dat) := l.map encD
theorem encDs_length (l : List Det) : (encDs l).length = l.length := by simp [encDs]
theorem encDs_append (a b : List Det) : encDs (a ++ b) = encDs a ++ encDs b := by simp [encDs]
theorem encDs_at {l : List Det} {i : Nat} (h : i < l.length) : (encDs l)[((i : Int)).toNat]? = some (encD l[i]) := by simp [encDs, h]
def belongsF (n t : Int) : Bool := if n = 11 then decide (t = 24334 ∨ (24336 ≤ t ∧ t ≤ 24341) ∨ t = 24386) else decide (t = 24345 ∨ t = 24358 ∨ t = 24347 ∨ t = 24405)
def detL (n : Int) : List Det → List Det → Int
  | _, [] => 0
  | seen, x :: l => if belongsF n x.tag = false then 4 else if (seen.any fun y => decide (y.tag = x.tag)) = true then 15 else if x.text.length < 1 ∨ x.text.length > 99 then 2 else detL n (seen ++ [x]) l
def listD (l : List Det) : List UInt8 := (l.map fun x => [bOf (x.tag / 256), bOf x.tag]).flatten
def kidsD (l : List Det) : List Node := l.map fun x => .mk x.tag x.text []
def detF (n : Int) (l : List Det) : List UInt8 × Int :=
  if n ≠ 11 ∧ n ≠ 12 then ([], 3) else if l.length > 16 then ([], 2) else if detL n [] l ≠ 0 then ([], detL n [] l) else wrapG n (.mk 92 (listD l) [] :: kidsD l)
theorem listD_append (a b : List Det) : listD (a ++ b) = listD a ++ listD b := by simp [listD]
theorem kidsD_append (a b : List Det) : kidsD (a ++ b) = kidsD a ++ kidsD b := by simp [kidsD]
theorem listD_length (l : List Det) : (listD l).length = 2 * l.length := by
  induction l with
  | nil => rfl
  | cons x l ih => rw [show x :: l = [x] ++ l from rfl, listD_append, List.length_append, ih, List.length_append]; simp [listD]; omega

/-! the zone's file -/
def zoneF (z : Zon) : List UInt8 × Int := if validZ z ≠ 0 then ([], validZ z) else wrapG 1 [.mk 24351 (buildZ z).flatten []]

/-! the conditions of Wrap -/
def szT (l : List Node) : Prop := fitL l ∧ sizeL l ≤ 10000000 ∧ l.length ≤ 1000000000
theorem octB4_len (n : Nat) : (octB 4 n).length = 4 := octB_length 4 n
theorem headT_fit (t : Tpl) : fitL (headT t) ∧ sizeL (headT t) = 6 := by
  refine ⟨?_, by simp [headT, sizeL, sizeN]⟩
  simp [headT, fitL, fitN, octB4_len]
theorem objT_fit {t : Tpl} (h : t.data.length ≤ 1000000) : fitN (objT t) ∧ sizeN (objT t) = 9 := by
  have ⟨h1, h2⟩ := headT_fit t
  refine ⟨?_, by simp [objT, sizeN, sizeL, h2]⟩
  exact ⟨by omega, by simp, by simp, ⟨⟨by omega, by simp, by simp [headT], h1⟩, ⟨by omega, by omega, by simp, trivial⟩, trivial⟩⟩
theorem objTs_fit : ∀ {l : List Tpl}, (∀ t ∈ l, t.data.length ≤ 1000000) → fitL (l.map objT) ∧ sizeL (l.map objT) = 9 * l.length
  | [], _ => by simp [fitL, sizeL]
  | t :: l, h => by
    have h1 := objT_fit (h t (by simp))
    have h2 := objTs_fit (l := l) fun t ht => h t (by simp [ht])
    rw [List.map_cons]
    exact ⟨⟨h1.1, h2.1⟩, by rw [sizeL, h1.2, h2.2, List.length_cons]; omega⟩
theorem encTR_fit (l : List Tpl) : fitL (encTR l).1 ∧ sizeL (encTR l).1 ≤ 10000 ∧ (encTR l).1.length ≤ 1 := by
  unfold encTR
  split
  · simp [fitL, sizeL]
  split
  · simp [fitL, sizeL]
  rename_i h1 h2
  have h3 := objTs_fit (l := l) fun t ht => by have := validT_ok (firstT_mem (by simpa using h2) t ht); omega
  have h4 : (l.map objT).length = l.length := by simp
  simp only [fitL, fitN, sizeL, sizeN, kidsT, h3.2, List.length_cons, h4]
  simp [h3.1]
  omega
theorem objI_fit (x : Inf) : fitN (objI x) ∧ sizeN (objI x) ≤ 5 := by
  unfold objI idB
  split
  · split <;> (try split) <;> (try split) <;> (try split) <;> simp [fitN, fitL, sizeN, sizeL, octB4_len]
  · split
    · split <;> (try split) <;> (try split) <;> (try split) <;> simp [fitN, fitL, sizeN, sizeL, octB4_len]
    · split <;> (try split) <;> (try split) <;> (try split) <;> simp [fitN, fitL, sizeN, sizeL, octB4_len]
theorem objIs_fit : ∀ (l : List Inf), fitL (l.map objI) ∧ sizeL (l.map objI) ≤ 5 * l.length
  | [] => by simp [fitL, sizeL]
  | x :: l => by
    have h1 := objI_fit x
    have h2 := objIs_fit l
    rw [List.map_cons]
    exact ⟨⟨h1.1, h2.1⟩, by rw [sizeL, List.length_cons]; omega⟩
theorem setI_fit {l : List Inf} (h : l.length ≤ 16) : fitL [setI l] ∧ sizeL [setI l] ≤ 100 := by
  have h1 := objIs_fit l
  simp only [setI, fitL, fitN, sizeL, sizeN]
  simp [h1.1]
  omega
end Tdoc
/- Plain: made names and signs are right. -/
set_option linter.unusedVariables false
set_option linter.unusedSimpArgs false
namespace Tdoc
open Go Go.Proofs

theorem isUp_ne {c : UInt8} (h : isUp c = true) : c ≠ 32 := by rintro rfl; revert h; decide
theorem nameL_up : ∀ (b : Bool) (w : List UInt8), w.all isUp = true → nameL b w = true
  | _, [], _ => rfl
  | b, c :: w, h => by
    rw [List.all_cons, Bool.and_eq_true] at h
    rw [nameL, if_neg (isUp_ne h.1), nameL_up false w h.2, Bool.and_true]
    exact h.1
theorem nameL_join : ∀ (b : Bool) (s w : List UInt8), nameL b s = true → s ≠ [] → w ≠ [] → w.all isUp = true → nameL b (s ++ 32 :: w) = true
  | _, [], _, _, h, _, _ => absurd rfl h
  | b, [c], w, h, _, hw, hu => by
    rw [nameL] at h
    split at h
    · simp at h
    · rename_i h1
      rw [nameL, Bool.and_true] at h
      rw [List.cons_append, List.nil_append, nameL, if_neg h1, h, Bool.true_and, nameL, if_pos rfl, nameL_up true w hu]
      cases w with
      | nil => exact absurd rfl hw
      | cons x w => rfl
  | b, c :: c2 :: s, w, h, _, hw, hu => by
    rw [nameL] at h
    rw [List.cons_append, nameL]
    split at h
    · rename_i h1
      rw [if_pos h1]
      simp only [Bool.and_eq_true] at h
      rw [nameL_join true (c2 :: s) w h.2 (by simp) hw hu, h.1.1]
      rfl
    · rename_i h1
      rw [if_neg h1]
      rw [Bool.and_eq_true] at h
      rw [nameL_join false (c2 :: s) w h.2 (by simp) hw hu, h.1]
      rfl

def NameM (w : Nat) (s : List UInt8) : Prop := nameL true s = true ∧ s.length ≤ 11 * w
theorem NameM.first {k : Nat} {w : List UInt8} (hu : w.all isUp = true) (hl : w.length ≤ 10) : NameM (k + 1) w := ⟨nameL_up _ _ hu, by omega⟩
theorem NameM.next {k : Nat} {s w : List UInt8} (h : NameM k s) (hs : s ≠ []) (hu : w.all isUp = true) (hl : w.length ≤ 10) (hw : w ≠ []) : NameM (k + 1) (s ++ 32 :: w) := ⟨nameL_join _ _ _ h.1 hs hw hu, by have := h.2; simp; omega⟩

def signC : List UInt8 := [48, 49, 50, 51, 52, 53, 54, 55, 56, 57, 65, 66, 67, 68, 69, 70, 71, 72, 73, 74, 75, 76, 77, 78, 79, 80, 81, 82, 83, 84, 85, 86, 87, 88, 89, 90]
theorem signC_plain : plainF signC = true := by decide
def SignM (n : Nat) (s : List UInt8) : Prop := plainF s = true ∧ 1 ≤ s.length ∧ s.length ≤ n
theorem plainF_append (a b : List UInt8) : plainF (a ++ b) = (plainF a && plainF b) := List.all_append
theorem plain_valid : ∀ {s : List UInt8}, plainF s = true → validS s = true
  | [], _ => rfl
  | c :: s, h => by
    rw [plainF, List.all_cons, Bool.and_eq_true, decide_eq_true_eq] at h
    rw [validS, plain_valid h.2, Bool.and_true, decide_eq_true_eq]
    exact h.1.2
theorem plain_mem {s : List UInt8} (h : plainF s = true) {c : UInt8} (hc : c ∈ s) : c ≠ 60 := by
  unfold plainF at h
  rw [List.all_eq_true] at h
  have := h c hc
  rw [decide_eq_true_eq] at this
  exact this.1
theorem plain_extra {s : List UInt8} (h : plainF s = true) : extraF s = true := by
  unfold extraF
  rw [plain_valid h, Bool.true_and]
  cases s with
  | nil => rfl
  | cons c t =>
    rw [Bool.or_eq_true, Bool.and_eq_true, decide_eq_true_eq, decide_eq_true_eq, decide_eq_true_eq]
    right
    refine ⟨fun hh => ?_, fun hh => ?_⟩
    · exact plain_mem h (c := 60) (by simp at hh; simp [hh]) rfl
    · exact plain_mem h (c := 60) (List.mem_of_getLast? hh) rfl
end Tdoc
/- The reference's reader of objects: tags and lengths, over a piece of the bytes. -/
set_option linter.unusedVariables false
set_option linter.unusedSimpArgs false
namespace Tdoc
open Go Go.Proofs

def seg (b : List UInt8) (p e : Nat) : List UInt8 := (b.take e).drop p
theorem seg_length {b : List UInt8} {p e : Nat} (he : e ≤ b.length) : (seg b p e).length = e - p := by simp [seg]; omega
theorem seg_enc {b : List UInt8} {p e : Nat} (he : e ≤ b.length) : (encB (seg b p e)).length = e - p := by rw [encB_length, seg_length he]
theorem seg_at {b : List UInt8} {p e i : Nat} (he : e ≤ b.length) (h : p + i < e) : (encB (seg b p e))[i]? = some [.int .u8 (byteAt b (p + i) : Int)] := by
  have hl := seg_length (p := p) he
  rw [encB_byte (by omega)]
  unfold byteAt seg
  rw [List.getD_eq_getElem?_getD, List.getD_eq_getElem?_getD, List.getElem?_drop, List.getElem?_take_of_lt h]
theorem seg_drop (b : List UInt8) (p e k : Nat) : (seg b p e).drop k = seg b (p + k) e := by simp [seg, List.drop_drop]
theorem seg_cut (b : List UInt8) {p e m : Nat} (n : Nat) (h : p + m ≤ e) : ((seg b p e).take m).drop n = seg b (p + n) (p + m) := by
  unfold seg
  rw [List.take_drop, List.drop_drop, List.take_take, Nat.min_eq_left (by omega)]
theorem seg_whole (b : List UInt8) : seg b 0 b.length = b := by simp [seg]

theorem tmod_nat (x : Nat) (k : Nat) : Int.tmod (x : Int) (k : Int) = ((x % k : Nat) : Int) := by rw [Int.ofNat_tmod]

/-- What the reference's tag says: the tag, how many bytes it has, an error's number. -/
def tagS (b : List UInt8) (e p : Nat) : Int × Int × Int :=
  if e ≤ p then (0, 0, 6)
  else if byteAt b p % 32 = 31 then
    if e ≤ p + 1 then (0, 0, 6)
    else if tagOk ((byteAt b p * 256 + byteAt b (p + 1) : Nat) : Int) then (((byteAt b p * 256 + byteAt b (p + 1) : Nat) : Int), 2, 0) else (0, 0, 4)
  else if tagOk (byteAt b p : Int) then ((byteAt b p : Int), 1, 0) else (0, 0, 4)
theorem tagS_eq (b : List UInt8) (e p : Nat) : (tagS b e p).1 = (tagX b e p).1 ∧ (tagS b e p).2.2 = (tagX b e p).2.1 ∧ ((tagX b e p).2.1 = 0 → (tagS b e p).2.1 + (p : Int) = ((tagX b e p).2.2 : Int)) := by
  unfold tagS tagX
  split
  · exact ⟨rfl, rfl, fun h => absurd h (by simp)⟩
  split
  · split
    · exact ⟨rfl, rfl, fun h => absurd h (by simp)⟩
    split
    · exact ⟨rfl, rfl, fun _ => by simp only; omega⟩
    · exact ⟨rfl, rfl, fun h => absurd h (by simp)⟩
  · split
    · exact ⟨rfl, rfl, fun _ => by simp only; omega⟩
    · exact ⟨rfl, rfl, fun h => absurd h (by simp)⟩

set_option maxHeartbeats 8000000 in
set_option maxRecDepth 100000 in
theorem TagRf_spec (b : List UInt8) (e p : Nat) (hb : b.length ≤ 1000000) (he : e ≤ b.length) (hp : p ≤ e) :
    Spec Tryz.prog 113 [.d (.sl 1 (encB (seg b p e)))] []
      (fun r h' => r = .tup [.d (.int .i64 (tagS b e p).1), .d (.int .i64 (tagS b e p).2.1), .d (.int .i64 (tagS b e p).2.2)] ∧ h' = []) := by
  have hx := byteAt_lt b p
  have hx1 := byteAt_lt b (p + 1)
  have hlen := seg_enc (p := p) he
  unfold tagS
  have h0 : p < e → (encB (seg b p e))[((0 : Int)).toNat]? = some [.int .u8 (byteAt b p : Int)] := fun h => seg_at (i := 0) he h
  have h1 : p + 1 < e → (encB (seg b p e))[((1 : Int)).toNat]? = some [.int .u8 (byteAt b (p + 1) : Int)] := fun h => seg_at (i := 1) he h
  generalize byteAt b p = x at *
  generalize byteAt b (p + 1) = y at *
  generalize encB (seg b p e) = s at *
  have hv := ValidR_spec ((x * 256 + y : Nat) : Int) ⟨by omega, by omega⟩
  have hm : (x : Int).tmod 32 = ((x % 32 : Nat) : Int) := Int.ofNat_tmod x 32
  have hwx : IntKind.i64.wrap (x : Int) = (x : Int) := wrap_id (by omega)
  have hwy : IntKind.i64.wrap (y : Int) = (y : Int) := wrap_id (by omega)
  have hw : IntKind.i64.wrap (IntKind.i64.wrap (256 * IntKind.i64.wrap (x : Int)) + IntKind.i64.wrap (y : Int)) = ((x * 256 + y : Nat) : Int) := by rw [hwx, hwy, wrap_id (n := 256 * (x : Int)) (by omega), wrap_id (by omega)]; omega
  rw [← hw] at hv
  refine Spec_of_body hT Tryz.func113 rfl rfl rfl rfl ?_; intro E hE
  refine ww ?_
  refine AW_condL rfl (fun c1 => ?_) (fun c1 => ?_)
  · have c1' : e ≤ p := by have := beq_iff_eq.1 c1; omega
    rw [if_pos c1']
    refine ww ?_
    exact wwr
  · have c1' : ¬ e ≤ p := by have := beq_eq_false_iff_ne.1 c1; omega
    have h0 := h0 (by omega)
    rw [if_neg c1']
    refine ww ?_
    refine wwi h0 ?_
    refine ww ?_
    refine AW_condL rfl (fun c2 => ?_) (fun c2 => ?_)
    · have c2' : ¬ x % 32 = 31 := by rw [hm] at c2; simp at c2; omega
      rw [if_neg c2']
      refine ww ?_
      refine wwi h0 ?_
      refine ww ?_
      refine AW_condL rfl (fun c3 => ?_) (fun c3 => ?_)
      · have c3' : x = 0 := by simpa using c3
        subst c3'
        refine ww ?_
        exact wwr
      · have c3' : x ≠ 0 := by simpa using c3
        have ht : tagOk (x : Int) = true := by
          unfold tagOk
          rw [if_pos (by omega)]
          simp; omega
        rw [if_pos ht]
        refine ww ?_
        refine wwi h0 ?_
        refine ww ?_
        exact wwr
    · have c2' : x % 32 = 31 := by rw [hm] at c2; simp at c2; omega
      rw [if_pos c2']
      refine ww ?_
      refine AW_condL rfl (fun c4 => ?_) (fun c4 => ?_)
      · have c4' : e ≤ p + 1 := by simp at c4; omega
        rw [if_pos c4']
        refine ww ?_
        exact wwr
      · have c4' : ¬ e ≤ p + 1 := by simp at c4; omega
        have h1 := h1 (by omega)
        rw [if_neg c4']
        refine ww ?_
        refine wwi h0 ?_
        refine ww ?_
        refine wwi h1 ?_
        refine ww ?_
        refine wwc hv ?_
        refine ww ?_
        refine AW_condL rfl (fun c5 => ?_) (fun c5 => ?_)
        · have c5' : ¬ tagOk ((x * 256 + y : Nat) : Int) = true := by rw [hw] at c5; simpa using c5
          rw [if_neg c5']
          refine ww ?_
          exact wwr
        · have c5' : tagOk ((x * 256 + y : Nat) : Int) = true := by rw [hw] at c5; simpa using c5
          rw [if_pos c5']
          refine ww ?_
          exact wwr

/-- What the reference's size says: the length, how many bytes it has, an error's number. -/
def sizeS (b : List UInt8) (e : Nat) (op st : Bool) (p : Nat) : Int × Int × Int :=
  if e ≤ p then (0, 0, 6)
  else if byteAt b p < 128 then ((byteAt b p : Int), 1, 0)
  else if 132 < byteAt b p ∨ (byteAt b p = 128 ∧ op = false) then (0, 0, 5)
  else if byteAt b p = 128 then (-1, 1, 0)
  else if e < p + 1 + byteAt b p % 16 then (0, 0, 6)
  else if st = true ∧ (numB b (p + 1) (byteAt b p % 16) 0 < 128 ∨ numB b (p + 1) (byteAt b p % 16) 0 / 2 ^ (8 * (byteAt b p % 16 - 1)) = 0) then (0, 0, 5)
  else ((numB b (p + 1) (byteAt b p % 16) 0 : Int), 1 + ((byteAt b p % 16 : Nat) : Int), 0)
theorem sizeS_eq (b : List UInt8) (e : Nat) (op st : Bool) (p : Nat) : (sizeS b e op st p).1 = (lenX b e op st p).1 ∧ (sizeS b e op st p).2.2 = (lenX b e op st p).2.1 ∧ ((lenX b e op st p).2.1 = 0 → (sizeS b e op st p).2.1 + (p : Int) = ((lenX b e op st p).2.2 : Int)) := by
  unfold sizeS lenX
  repeat' split
  all_goals first | exact ⟨rfl, rfl, fun _ => by simp only; omega⟩ | exact ⟨rfl, rfl, fun h => absurd h (by simp)⟩

theorem numB_top {b : List UInt8} {p k : Nat} (h1 : 1 ≤ k) (h4 : k ≤ 4) : (numB b p k 0 < 128 ∨ numB b p k 0 / 2 ^ (8 * (k - 1)) = 0) ↔ (numB b p k 0 ≤ 127 ∨ (1 < k ∧ byteAt b p = 0)) := by
  have a0 := byteAt_lt b p
  have a1 := byteAt_lt b (p + 1)
  have a2 := byteAt_lt b (p + 1 + 1)
  have a3 := byteAt_lt b (p + 1 + 1 + 1)
  have : k = 1 ∨ k = 2 ∨ k = 3 ∨ k = 4 := by omega
  rcases this with rfl | rfl | rfl | rfl
  · simp only [numB, Nat.sub_self, Nat.mul_zero, Nat.pow_zero]; omega
  · simp only [numB, show 2 ^ (8 * (2 - 1)) = 256 from rfl]; omega
  · simp only [numB, show 2 ^ (8 * (3 - 1)) = 65536 from rfl]; omega
  · simp only [numB, show 2 ^ (8 * (4 - 1)) = 16777216 from rfl]; omega

set_option maxHeartbeats 8000000 in
set_option maxRecDepth 100000 in
theorem SizeRf_spec (b : List UInt8) (op st : Bool) (e p : Nat) (hb : b.length ≤ 1000000) (he : e ≤ b.length) (hp : p ≤ e) :
    Spec Tryz.prog 114 [.d (.sl 1 (encB (seg b p e))), .d (.bool op), .d (.bool st)] []
      (fun r h' => r = .tup [.d (.int .i64 (sizeS b e (op && !st) st p).1), .d (.int .i64 (sizeS b e (op && !st) st p).2.1), .d (.int .i64 (sizeS b e (op && !st) st p).2.2)] ∧ h' = []) := by
  have hx := byteAt_lt b p
  have hlen := seg_enc (p := p) he
  have htop := fun h1 h4 => numB_top (b := b) (p := p + 1) (k := byteAt b p % 16) h1 h4
  unfold sizeS
  have hat : ∀ i, p + i < e → (encB (seg b p e))[((i : Nat) : Int).toNat]? = some [.int .u8 (byteAt b (p + i) : Int)] := fun i h => seg_at he h
  have hlt := byteAt_lt b
  have h0 := hat 0
  have h1 := hat 1
  rw [Nat.add_zero] at h0
  generalize hxx : byteAt b p = x at *
  generalize encB (seg b p e) = s at *
  have hwx : IntKind.i64.wrap (x : Int) = (x : Int) := wrap_id (by omega)
  have hwk : 128 < x → x ≤ 132 → IntKind.i64.wrap (IntKind.i64.wrap (x : Int) - 128) = ((x % 16 : Nat) : Int) := fun g1 g2 => by rw [hwx, wrap_id (by omega)]; omega
  refine Spec_of_body hT Tryz.func114 rfl rfl rfl rfl ?_; intro E hE
  refine ww ?_
  refine AW_condL rfl (fun c1 => ?_) (fun c1 => ?_)
  · have c1' : e ≤ p := by have := beq_iff_eq.1 c1; omega
    rw [if_pos c1']
    refine ww ?_
    exact wwr
  · have c1' : ¬ e ≤ p := by have := beq_eq_false_iff_ne.1 c1; omega
    have h0 := h0 (by omega)
    rw [if_neg c1']
    refine ww ?_
    refine wwi h0 ?_
    refine ww ?_
    refine AW_condL rfl (fun c2 => ?_) (fun c2 => ?_)
    · have c2' : x < 128 := by rw [hwx] at c2; simp at c2; omega
      rw [if_pos c2']
      refine ww ?_
      exact wwr
    · have c2' : ¬ x < 128 := by rw [hwx] at c2; simp at c2; omega
      rw [if_neg c2']
      refine ww ?_
      refine AW_condL rfl (fun c3 => ?_) (fun c3 => ?_)
      · have c3' : 132 < x := by rw [hwx] at c3; simp at c3; omega
        rw [if_pos (.inl c3')]
        refine ww ?_
        exact wwr
      · have c3' : ¬ 132 < x := by rw [hwx] at c3; simp at c3; omega
        refine ww ?_
        refine AW_condL rfl (fun c4 => ?_) (fun c4 => ?_)
        · have c4' : x = 128 := by rw [hwx] at c4; simp at c4; omega
          refine ww ?_
          refine AW_condL rfl (fun c5 => ?_) (fun c5 => ?_)
          · have c5' : (op && !st) = false := by cases op <;> cases st <;> simp_all
            rw [if_pos (.inr ⟨c4', c5'⟩)]
            refine ww ?_
            exact wwr
          · have c5' : (op && !st) = true := by cases op <;> cases st <;> simp_all
            rw [if_neg (fun hh => hh.elim c3' (fun g => by rw [c5'] at g; cases g.2)), if_pos c4']
            refine ww ?_
            exact wwr
        · have c4' : ¬ x = 128 := by rw [hwx] at c4; simp at c4; omega
          have hwk := hwk (by omega) (by omega)
          have htop := htop (by omega) (by omega)
          rw [if_neg (by omega), if_neg c4']
          generalize hkk : x % 16 = k at *
          refine ww ?_
          refine AW_condL rfl (fun c6 => ?_) (fun c6 => ?_)
          · have c6' : e < p + 1 + k := by rw [hwk, wrap_id (by omega)] at c6; simp at c6; omega
            rw [if_pos c6']
            refine ww ?_
            exact wwr
          · have c6' : ¬ e < p + 1 + k := by rw [hwk, wrap_id (by omega)] at c6; simp at c6; omega
            have h1 := h1 (by omega)
            rw [if_neg c6']
            have hnlt := numB_lt b k (p + 1) 0 0 (by simp)
            generalize hnn : numB b (p + 1) k 0 = nb at *
            generalize byteAt b (p + 1) = y at *
            refine ww ?_
            refine AW_loopC (ι := Nat × Nat) (fun z => [(0, .d (.sl 1 s)), (2, .d (.bool st)), (10, .d (.int .i64 (k : Int))), (11, .d (.int .i64 (z.2 : Int))), (12, .d (.int .i64 ((z.1 + 1 : Nat) : Int)))])
              (fun _ => []) (fun z => z.1 ≤ k ∧ z.2 < 256 ^ z.1 ∧ numB b (p + 1 + z.1) (k - z.1) z.2 = nb) (fun z => k - z.1) (0, 0) ⟨by omega, by simp, by simpa using hnn⟩ ⟨.refl _, .refl _, .int hwk, .refl _, .refl _, trivial⟩ (HLe.refl _) ?_
            rintro ⟨i, n⟩ ⟨i1, i2, i3⟩
            simp only at i1 i2 i3 ⊢
            have hpw : 256 ^ i ≤ 256 ^ 4 := Nat.pow_le_pow_right (by omega) (by omega)
            have hel := hat (i + 1)
            have hlt := hlt (p + 1 + i)
            rw [show p + (i + 1) = p + 1 + i by omega] at hel
            generalize hz : byteAt b (p + 1 + i) = z at *
            have hw1 : IntKind.i64.wrap (IntKind.i64.wrap (256 * (n : Int)) + IntKind.i64.wrap (z : Int)) = ((n * 256 + z : Nat) : Int) := by rw [wrap_id (n := (z : Int)) (by omega), wrap_id (n := 256 * (n : Int)) (by omega), wrap_id (by omega)]; omega
            have hw2 : IntKind.i64.wrap (((i + 1 : Nat) : Int) + 1) = ((i + 1 + 1 : Nat) : Int) := by rw [wrap_id (by omega)]; omega
            refine ww ?_
            refine AW_condL rfl (fun c7 => ?_) (fun c7 => ?_)
            · have c7' : i < k := by simp at c7; omega
              have hel := hel (by omega)
              refine ww ?_
              refine wwi hel ?_
              refine ww ?_
              refine ⟨(i + 1, n * 256 + z), [], ⟨by omega, ?_, ?_⟩, by omega, ⟨.refl _, .refl _, .refl _, .int hw1, .int hw2, trivial⟩, trivial, Env.below_mono hE (by simp), rfl, rfl⟩
              · rw [Nat.pow_succ]; omega
              · refine Eq.trans ?_ i3
                (rw [show k - i = (k - (i + 1)) + 1 by omega, numB, hz]) <;> rfl
            · have c7' : i = k := by simp at c7; omega
              subst c7'
              rw [Nat.sub_self, numB] at i3
              subst i3
              refine ww ?_
              refine wwgi h1 ?_
              refine ww ?_
              refine AW_condL rfl (fun c8 => ?_) (fun c8 => ?_)
              · have c8' : st = true ∧ (n < 128 ∨ n / 2 ^ (8 * (i - 1)) = 0) := by
                  simp at c8
                  exact ⟨c8.1, htop.2 (by omega)⟩
                rw [if_pos c8']
                refine ww ?_
                exact wwr
              · have c8' : ¬ (st = true ∧ (n < 128 ∨ n / 2 ^ (8 * (i - 1)) = 0)) := by
                  rintro ⟨hst, hh⟩
                  have := htop.1 hh
                  simp [hst] at c8
                  omega
                rw [if_neg c8']
                have hw3 : IntKind.i64.wrap (1 + (i : Int)) = 1 + (i : Int) := wrap_id (by omega)
                refine ww ?_
                exact wwr
end Tdoc
/- The reference's reader of objects: lists, and Parse. -/
set_option linter.unusedVariables false
set_option linter.unusedSimpArgs false
namespace Tdoc
open Go Go.Proofs

def genX (b : List UInt8) (f : Rd) (e : Nat) (op : Bool) (m p c : Nat) (out : List Node) : List Node × Int × Nat × Nat := if op = true then kidsX b f e m p c out else loopX f e m p c out
def listR (R : List Node × Int × Nat × Nat) (p : Nat) : List Node × Int × Int × Int := if R.2.1 ≠ 0 then ([], 0, 0, R.2.1) else (R.1, (R.2.2.1 : Int) - (p : Int), (R.2.2.2 : Int), 0)
theorem genX_step {b : List UInt8} {f : Rd} {e : Nat} {op : Bool} {m p c : Nat} {out : List Node} (hp : p < e) (h : op = true → ¬ (byteAt b p = 0 ∧ e ≤ p + 1) ∧ ¬ (byteAt b p = 0 ∧ byteAt b (p + 1) = 0)) :
    genX b f e op (m + 1) p c out = if (f p c).2.1 ≠ 0 then ([], (f p c).2) else genX b f e op m (f p c).2.2.1 (f p c).2.2.2 (out ++ [(f p c).1]) := by
  unfold genX
  cases op with
  | true =>
    obtain ⟨h1, h2⟩ := h rfl
    simp only [if_true]
    rw [kidsX, if_neg (fun hh => hh.elim (by omega) h1), if_neg h2]
  | false =>
    simp only [Bool.false_eq_true, if_false]
    rw [loopX, if_pos hp]

theorem seg_take (b : List UInt8) (p e a n : Nat) (h : p + a + n ≤ e) : ((seg b p e).drop a).take n = seg b (p + a) (p + a + n) := by
  unfold seg
  rw [List.drop_drop, List.take_drop, List.take_take, Nat.min_eq_left (by omega)]

set_option maxHeartbeats 8000000 in
set_option maxRecDepth 100000 in
theorem list_spec (b : List UInt8) (st : Bool) (hb : b.length ≤ 1000000) : ∀ (k d e : Nat) (op : Bool) (p c m : Nat), d + k = 9 → e ≤ b.length → p ≤ e → c ≤ 256 → e < p + m →
    Spec Tryz.prog 56 [.d (.sl 1 (encB (seg b p e))), .d (.int .i64 (d : Int)), .d (.int .i64 (c : Int)), .d (.bool st), .d (.bool op)] []
      (fun r h' => r = .tup [.d (.sl 3 (encNs (listR (genX b (objX b st (k + 1) e d) e op m p c []) p).1)), .d (.int .i64 (listR (genX b (objX b st (k + 1) e d) e op m p c []) p).2.1), .d (.int .i64 (listR (genX b (objX b st (k + 1) e d) e op m p c []) p).2.2.1), .d (.int .i64 (listR (genX b (objX b st (k + 1) e d) e op m p c []) p).2.2.2)] ∧ h' = []) := by
  intro k
  induction k using Nat.strongRecOn with
  | _ k ih =>
  intro d e op p c m hdk he hp hc hm
  generalize hfin : genX b (objX b st (k + 1) e d) e op m p c [] = fin
  have hlen := seg_enc (p := p) he
  have hat : ∀ i, p + i < e → (encB (seg b p e))[((i : Nat) : Int).toNat]? = some [.int .u8 (byteAt b (p + i) : Int)] := fun i h => seg_at he h
  have hdr : ∀ a : Nat, encB (seg b (p + a) e) = (encB (seg b p e)).drop ((a : Nat) : Int).toNat := fun a => by rw [Int.toNat_natCast, encB_drop, seg_drop]
  have hct : ∀ a n : Nat, p + a + n ≤ e → encB (seg b (p + a) (p + a + n)) = cutL (encB (seg b p e)) ((a : Nat) : Int) ((a + n : Nat) : Int) := fun a n h => by
    unfold cutL
    rw [encB_drop, encB_take, Int.toNat_natCast, ← seg_take b p e a n h]
    congr 2; omega
  have hval : ∀ a n : Nat, p + a + n ≤ e → encB ((b.drop (p + a)).take n) = cutL (encB (seg b p e)) ((a : Nat) : Int) ((a + n : Nat) : Int) := fun a n h => by
    rw [← hct a n h]
    unfold seg
    rw [List.take_drop]
  have hlt := byteAt_lt b
  generalize encB (seg b p e) = s at *
  refine Spec_of_body hT Tryz.func56 rfl rfl rfl rfl ?_; intro E hE
  refine AW_room ?_
  refine wws ?_
  refine AW_seq (AW_region ?_)
  refine wws ?_
  refine AW_seq (AW_region ?_)
  refine wws ?_
  refine AW_acquireAt 14 3 0 (es := []) (.inr ⟨rfl, rfl⟩) rfl ?_
  refine AW_seq (AW_region ?_)
  refine wws ?_
  refine AW_block ?_
  refine AW_loopC (ι := Nat × Nat × Nat × List Node) (fun x => [(0, .d (.sl 1 s)), (1, .d (.int .i64 (d : Int))), (2, .d (.int .i64 (x.2.1 : Int))), (3, .d (.bool st)), (4, .d (.bool op)), (14, .sl 3 (encNs x.2.2.2) (.right 0)), (15, .d (.int .i64 (x.1 : Int)))]) (fun x => [.right 3 (encNs x.2.2.2).length])
    (fun x => p + x.1 ≤ e ∧ x.2.1 ≤ 256 ∧ e < p + x.1 + x.2.2.1 ∧ x.2.2.2.length ≤ p + x.1 ∧ genX b (objX b st (k + 1) e d) e op x.2.2.1 (p + x.1) x.2.1 x.2.2.2 = fin) (fun x => e - (p + x.1)) (0, c, m, []) ⟨by omega, hc, by omega, by simp, hfin⟩ ⟨.refl _, .refl _, .refl _, .refl _, .refl _, .refl _, .refl _, trivial⟩ ⟨.refl _, trivial⟩ ?_
  rintro ⟨a, c, m, out⟩ ⟨hpa, hc, hm, ho, hg⟩
  simp only at hpa hc hm ho hg ⊢
  have hol := encNs_length out
  have hxlt := hlt (p + a)
  have hylt := hlt (p + a + 1)
  have hx := hat a
  have hy := hat (a + 1)
  rw [show p + (a + 1) = p + a + 1 by omega] at hy
  have hwa1 : IntKind.i64.wrap ((a : Int) + 1) = ((a + 1 : Nat) : Int) := by rw [wrap_id (by omega)]; simp
  have hwa2 : IntKind.i64.wrap ((a : Int) + 2) = ((a + 2 : Nat) : Int) := by rw [wrap_id (by omega)]; simp
  rw [← hwa1] at hy
  refine AW_block ?_
  refine AW_seq_cut (ι := Unit) (fun _ => [(0, .d (.sl 1 s)), (1, .d (.int .i64 (d : Int))), (2, .d (.int .i64 (c : Int))), (3, .d (.bool st)), (4, .d (.bool op)), (14, .sl 3 (encNs out) (.right 0)), (15, .d (.int .i64 (a : Int)))]) (fun _ => [.right 3 (encNs out).length])
    (fun _ => p + a < e ∧ (op = true → ¬ (byteAt b (p + a) = 0 ∧ e ≤ p + a + 1) ∧ ¬ (byteAt b (p + a) = 0 ∧ byteAt b (p + a + 1) = 0))) ?_ ?_
  · refine ww ?_
    refine AW_condL rfl (fun c1 => ?_) (fun c1 => ?_)
    · subst c1
      refine ww ?_
      refine AWk_gop (v := .iptr [.int .u8 (byteAt b (p + a) : Int)]) rfl rfl rfl (fun hg => ⟨(sg (C := True) hg).1, OpS_of_pure (indexAddr_ok hT rfl rfl rfl rfl (by omega) (hx (by simp [gval] at hg; omega)))⟩) ?_
      refine ww ?_
      refine AW_condL rfl (fun c2 => ?_) (fun c2 => ?_)
      · have c2' : e ≤ p + a ∨ (byteAt b (p + a) = 0 ∧ e ≤ p + a + 1) := by
          rw [hwa1] at c2; simp at c2; omega
        have hr : fin = ([], 6, p + a, c) := by
          rw [← hg]
          unfold genX
          cases m with
          | zero => rfl
          | succ m => simp only [if_true]; rw [kidsX, if_pos c2']
        subst hr
        refine ww ?_
        exact wwr
      · have c2' : ¬ (e ≤ p + a ∨ (byteAt b (p + a) = 0 ∧ e ≤ p + a + 1)) := by
          intro hh
          rw [hwa1] at c2; simp at c2; omega
        have hx := hx (by omega)
        refine ww ?_
        refine wwi hx ?_
        refine ww ?_
        refine AWk_gop (v := .iptr [.int .u8 (byteAt b (p + a + 1) : Int)]) rfl rfl rfl (fun hg => ⟨(sg (C := True) hg).1, OpS_of_pure (indexAddr_ok hT rfl rfl rfl rfl (by rw [hwa1]; omega) (hy (by simp [gval] at hg; omega)))⟩) ?_
        refine ww ?_
        refine AW_condL rfl (fun c3 => ?_) (fun c3 => ?_)
        · have c3' : byteAt b (p + a) = 0 ∧ byteAt b (p + a + 1) = 0 := by simp at c3; exact c3
          have hr : fin = (out, 0, p + a + 2, c) := by
            rw [← hg]
            unfold genX
            obtain ⟨m, rfl⟩ : ∃ m', m = m' + 1 := ⟨m - 1, by omega⟩
            simp only [if_true]; rw [kidsX, if_neg c2', if_pos c3']
          subst hr
          refine ww ?_
          exact rq (r := .tup [.d (.sl 3 (encNs out)), .d (.int .i64 (((p + a + 2 : Nat) : Int) - (p : Int))), .d (.int .i64 (c : Int)), .d (.int .i64 0)]) ⟨rfl, rfl⟩ rfl (AV.le.tup ⟨.dat, .int (by rw [hwa2]; omega), .refl _, .refl _, trivial⟩)
        · have c3' : ¬ (byteAt b (p + a) = 0 ∧ byteAt b (p + a + 1) = 0) := by
            rintro ⟨h1, h2⟩
            simp [h1, h2] at c3
          refine ww ?_
          exact ⟨(), ⟨by omega, fun _ => ⟨fun hh => c2' (.inr hh), c3'⟩⟩, ⟨.refl _, .refl _, .refl _, .refl _, .refl _, .refl _, .refl _, trivial⟩, HLe.refl _⟩
    · subst c1
      refine ww ?_
      refine AW_condL rfl (fun c2 => ?_) (fun c2 => ?_)
      · have c2' : e ≤ p + a := by simp at c2; omega
        have hr : fin = (out, 0, p + a, c) := by
          rw [← hg]
          unfold genX
          cases m with
          | zero => rfl
          | succ m => simp only [Bool.false_eq_true, if_false]; rw [loopX, if_neg (by omega)]
        subst hr
        refine ww ?_
        exact rq (r := .tup [.d (.sl 3 (encNs out)), .d (.int .i64 (((p + a : Nat) : Int) - (p : Int))), .d (.int .i64 (c : Int)), .d (.int .i64 0)]) ⟨rfl, rfl⟩ rfl (AV.le.tup ⟨.dat, .int (by omega), .refl _, .refl _, trivial⟩)
      · have c2' : ¬ e ≤ p + a := by simp at c2; omega
        refine ww ?_
        exact ⟨(), ⟨by omega, fun h => by cases h⟩, ⟨.refl _, .refl _, .refl _, .refl _, .refl _, .refl _, .refl _, trivial⟩, HLe.refl _⟩
  · rintro _ ⟨hpe, hop⟩
    obtain ⟨m, rfl⟩ : ∃ m', m = m' + 1 := ⟨m - 1, by omega⟩
    rw [genX_step hpe hop] at hg
    have hbad : ∀ x, fin.2.1 = x → x ≠ 0 → listR fin p = ([], 0, 0, x) := fun x h1 h2 => by unfold listR; rw [if_pos (by rw [h1]; exact h2), h1]
    have hs1 := tagS_eq b e (p + a)
    have hok1 := tagX_ok b (e := e) (p := p + a) (by omega)
    have htag := TagRf_spec b e (p + a) hb he (by omega)
    have hrd := objX_ok b st (k + 1) e d (p + a) c (by omega) hc
    rw [hdr a] at htag
    generalize hfo : objX b st (k + 1) e d (p + a) c = fo at hg hrd
    rw [objX] at hfo
    generalize tagS b e (p + a) = ts at hs1 htag
    obtain ⟨ts1, k1, ts3⟩ := ts
    generalize tagX b e (p + a) = tx at hs1 hok1 hfo
    obtain ⟨t, e1, q1⟩ := tx
    obtain ⟨nd, e9, q9, c9⟩ := fo
    simp only at hs1 hok1 htag hfo hg hrd
    obtain ⟨rfl, rfl, hk1⟩ := hs1
    refine ww ?_
    refine wwc htag ?_
    refine ww ?_
    refine AW_condL rfl (fun d1 => ?_) (fun d1 => ?_)
    · have d1' : ts3 ≠ 0 := by simpa using d1
      rw [if_pos d1', Prod.mk.injEq, Prod.mk.injEq, Prod.mk.injEq] at hfo
      obtain ⟨_, h92, _, _⟩ := hfo
      rw [← h92, if_pos d1'] at hg
      rw [hbad ts3 (by rw [← hg]) d1']
      refine ww ?_
      exact wwr
    · have d1' : ¬ ts3 ≠ 0 := by simpa using d1
      rw [if_neg d1'] at hfo
      have hk1 := hk1 (by omega)
      obtain ⟨a1, rfl⟩ : ∃ a1, q1 = p + a1 := ⟨q1 - p, by omega⟩
      have hw1 : IntKind.i64.wrap ((a : Int) + k1) = (a1 : Int) := by rw [wrap_id (by omega)]; omega
      have hcon := ConstructedR_spec ts1 (by omega)
      have hsz := SizeRf_spec b (tagCons ts1) st e (p + a1) hb he (by omega)
      have hs2 := sizeS_eq b e (tagCons ts1 && !st) st (p + a1)
      have hok2 := lenX_ok b (e := e) (p := p + a1) (tagCons ts1 && !st) st (by omega)
      generalize sizeS b e (tagCons ts1 && !st) st (p + a1) = sz at hs2 hsz
      obtain ⟨n', k2, e2'⟩ := sz
      generalize lenX b e (tagCons ts1 && !st) st (p + a1) = nx at hs2 hok2 hfo
      obtain ⟨n, e2, q2⟩ := nx
      simp only at hs2 hok2 hsz
      obtain ⟨rfl, rfl, hk2⟩ := hs2
      rw [hdr a1, ← hw1] at hsz
      unfold objY at hfo
      simp only at hfo
      generalize tagCons ts1 = con at hcon hsz hfo
      refine ww ?_
      refine wwc hcon ?_
      refine ww ?_
      refine wwc hsz ?_
      refine ww ?_
      refine AW_condL rfl (fun d2 => ?_) (fun d2 => ?_)
      · have d2' : e2' ≠ 0 := by simpa using d2
        rw [if_pos d2', Prod.mk.injEq, Prod.mk.injEq, Prod.mk.injEq] at hfo
        obtain ⟨_, h92, _, _⟩ := hfo
        rw [← h92, if_pos d2'] at hg
        rw [hbad e2' (by rw [← hg]) d2']
        refine ww ?_
        exact wwr
      · have d2' : ¬ e2' ≠ 0 := by simpa using d2
        rw [if_neg d2'] at hfo
        have hk2 := hk2 (by omega)
        obtain ⟨a2, rfl⟩ : ∃ a2, q2 = p + a2 := ⟨q2 - p, by omega⟩
        have hw2 : IntKind.i64.wrap (IntKind.i64.wrap ((a : Int) + k1) + k2) = (a2 : Int) := by rw [hw1, wrap_id (by omega)]; omega
        have hwc : IntKind.i64.wrap ((c : Int) + 1) = ((c + 1 : Nat) : Int) := by rw [wrap_id (by omega)]; simp
        have hwd : IntKind.i64.wrap ((d : Int) + 1) = ((d + 1 : Nat) : Int) := by rw [wrap_id (by omega)]; simp
        refine ww ?_
        refine AW_condL rfl (fun d3 => ?_) (fun d3 => ?_)
        · have d3' : d > 8 := by simp at d3; omega
          rw [if_pos d3', Prod.mk.injEq, Prod.mk.injEq, Prod.mk.injEq] at hfo
          obtain ⟨_, h92, _, _⟩ := hfo
          rw [← h92, if_pos (by decide)] at hg
          rw [hbad 7 (by rw [← hg]) (by decide)]
          refine ww ?_
          exact wwr
        · have d3' : ¬ d > 8 := by simp at d3; omega
          rw [if_neg d3'] at hfo
          refine ww ?_
          refine AW_condL rfl (fun d4 => ?_) (fun d4 => ?_)
          · have d4' : c + 1 > 256 := by rw [hwc] at d4; simp at d4; omega
            rw [if_pos d4', Prod.mk.injEq, Prod.mk.injEq, Prod.mk.injEq] at hfo
            obtain ⟨_, h92, _, _⟩ := hfo
            rw [← h92, if_pos (by decide)] at hg
            rw [hbad 2 (by rw [← hg]) (by decide)]
            refine ww ?_
            exact wwr
          · have d4' : ¬ c + 1 > 256 := by rw [hwc] at d4; simp at d4; omega
            rw [if_neg d4'] at hfo
            have hwe : IntKind.i64.wrap ((s.length : Int) - IntKind.i64.wrap (IntKind.i64.wrap ((a : Int) + k1) + k2)) = (e : Int) - ((p + a2 : Nat) : Int) := by rw [hw2, wrap_id (by omega)]; omega
            refine ww ?_
            refine AW_condL rfl (fun d5 => ?_) (fun d5 => ?_)
            · have d5' : n' > (e : Int) - ((p + a2 : Nat) : Int) := by rw [hwe] at d5; simp at d5; omega
              rw [if_pos d5', Prod.mk.injEq, Prod.mk.injEq, Prod.mk.injEq] at hfo
              obtain ⟨_, h92, _, _⟩ := hfo
              rw [← h92, if_pos (by decide)] at hg
              rw [hbad 6 (by rw [← hg]) (by decide)]
              refine ww ?_
              exact wwr
            · have d5' : ¬ n' > (e : Int) - ((p + a2 : Nat) : Int) := by rw [hwe] at d5; simp at d5; omega
              rw [if_neg d5'] at hfo
              obtain ⟨k, rfl⟩ : ∃ k', k = k' + 1 := ⟨k - 1, by omega⟩
              have he2 : e2' = 0 := by omega
              subst he2
              refine wwe ?_
              refine AW_seq (AW_region ?_)
              refine wws ?_
              refine AW_seq_cut (ι := Int × Node × Int × Int) (fun x => [(0, .d (.sl 1 s)), (1, .d (.int .i64 (d : Int))), (2, .d (.int .i64 x.2.2.2)), (3, .d (.bool st)), (4, .d (.bool op)), (14, .sl 3 (encNs out) (.right 0)), (15, .d (.int .i64 (a2 : Int))), (18, .d (.int .i64 x.1)), (19, .d (.int .i64 x.2.2.1)), (20, .ptr 1 0)]) (fun x => [.right 3 (encNs out).length, .row (nCells x.2.1)])
                (fun x => x.1 = e9 ∧ (x.1 = 0 → x.2.1 = nd ∧ x.2.2.1 + ((p + a2 : Nat) : Int) = (q9 : Int) ∧ x.2.2.2 = (c9 : Int))) ?_ ?_
              · refine AW_block ?_
                refine ww ?_
                refine AW_condL rfl (fun d6 => ?_) (fun d6 => ?_)
                · have d6' : n' = -1 := by simp at d6; omega
                  rw [if_pos d6'] at hfo
                  have hi := ih k (by omega) (d + 1) e true (p + a2) (c + 1) (e + 1) (by omega) he (by omega) (by omega) (by omega)
                  simp only [genX, if_true] at hi
                  have hkk := kidsX_ok (b := b) (objX_ok b st (k + 1) e (d + 1)) (e + 1) (p + a2) (c + 1) [] (by omega) (by omega)
                  generalize kidsX b (objX b st (k + 1) e (d + 1)) e (e + 1) (p + a2) (c + 1) [] = K at hi hfo hkk
                  obtain ⟨ks, e3, p3, c3⟩ := K
                  simp only [Prod.mk.injEq] at hfo hkk
                  obtain ⟨rfl, rfl, rfl, rfl⟩ := hfo
                  generalize hL : listR (ks, e3, p3, c3) (p + a2) = L at hi
                  obtain ⟨l1, l2, l3, l4⟩ := L
                  simp only at hi
                  rw [hdr a2, ← hw2, ← hwd, ← hwc] at hi
                  refine ww ?_
                  refine wwc hi ?_
                  refine ww ?_
                  refine ⟨(l4, .mk ts1 [] l1, l2, l3), ?_, ⟨.refl _, .refl _, .refl _, .refl _, .refl _, .refl _, .int hw2, .refl _, .refl _, .refl _, trivial⟩, ⟨ObLe.refl _, ⟨.refl _, .dat, .refl _, trivial⟩, trivial⟩⟩
                  unfold listR at hL
                  simp only at hL ⊢
                  split at hL
                  · rename_i h3
                    simp only [Prod.mk.injEq] at hL
                    exact ⟨hL.2.2.2.symm, fun h0 => absurd (hL.2.2.2.trans h0) h3⟩
                  · rename_i h3
                    simp only [Prod.mk.injEq] at hL
                    exact ⟨by omega, fun h0 => ⟨by rw [hL.1], by omega, by omega⟩⟩
                · have d6' : ¬ n' = -1 := by simp at d6; omega
                  rw [if_neg d6'] at hfo
                  obtain ⟨nn, rfl⟩ := Int.eq_ofNat_of_zero_le (show 0 ≤ n' by omega)
                  rw [Int.toNat_natCast] at hfo
                  have hwn : IntKind.i64.wrap (IntKind.i64.wrap (IntKind.i64.wrap ((a : Int) + k1) + k2) + (nn : Int)) = ((a2 + nn : Nat) : Int) := by rw [hw2, wrap_id (by omega)]; simp
                  refine ww ?_
                  refine wwc hcon ?_
                  refine ww ?_
                  refine AW_condL rfl (fun d7 => ?_) (fun d7 => ?_)
                  · rw [if_pos d7] at hfo
                    have hi := ih k (by omega) (d + 1) (p + a2 + nn) false (p + a2) (c + 1) (e + 1) (by omega) (by omega) (by omega) (by omega) (by omega)
                    simp only [genX, Bool.false_eq_true, if_false] at hi
                    have hkk := loopX_ok (objX_ok b st (k + 1) (p + a2 + nn) (d + 1)) (e + 1) (p + a2) (c + 1) [] (by omega) (by omega)
                    have hle := loop_end (objX_ok b st (k + 1) (p + a2 + nn) (d + 1)) (e + 1) (p + a2) (c + 1) [] (by omega) (by omega) (by omega)
                    generalize loopX (objX b st (k + 1) (p + a2 + nn) (d + 1)) (p + a2 + nn) (e + 1) (p + a2) (c + 1) [] = K at hi hfo hkk hle
                    obtain ⟨ks, e3, p3, c3⟩ := K
                    simp only [Prod.mk.injEq] at hfo hkk hle
                    obtain ⟨rfl, rfl, rfl, rfl⟩ := hfo
                    generalize hL : listR (ks, e3, p3, c3) (p + a2) = L at hi
                    obtain ⟨l1, l2, l3, l4⟩ := L
                    simp only at hi
                    rw [hct a2 nn (by omega), ← hwn, ← hw2, ← hwd, ← hwc] at hi
                    refine ww ?_
                    refine wwc hi ?_
                    refine ww ?_
                    refine ⟨(l4, .mk ts1 [] l1, (nn : Int), l3), ?_, ⟨.refl _, .refl _, .refl _, .refl _, .refl _, .refl _, .int hw2, .refl _, .refl _, .refl _, trivial⟩, ⟨ObLe.refl _, ⟨.refl _, .dat, .refl _, trivial⟩, trivial⟩⟩
                    unfold listR at hL
                    simp only at hL ⊢
                    split at hL
                    · rename_i h3
                      simp only [Prod.mk.injEq] at hL
                      exact ⟨hL.2.2.2.symm, fun h0 => absurd (hL.2.2.2.trans h0) h3⟩
                    · rename_i h3
                      simp only [Prod.mk.injEq] at hL
                      have hle := hle (by omega)
                      exact ⟨by omega, fun h0 => ⟨by rw [hL.1], by omega, by omega⟩⟩
                  · have d7' : ¬ con = true := by simp [d7]
                    rw [if_neg d7'] at hfo
                    simp only [Prod.mk.injEq] at hfo
                    obtain ⟨rfl, rfl, rfl, rfl⟩ := hfo
                    have hcut : encB ((b.drop (p + a2)).take nn) = cutL s (IntKind.i64.wrap (IntKind.i64.wrap ((a : Int) + k1) + k2)) (IntKind.i64.wrap (IntKind.i64.wrap (IntKind.i64.wrap ((a : Int) + k1) + k2) + (nn : Int))) := by rw [hwn, hw2]; exact hval a2 nn (by omega)
                    have hcl := congrArg List.length hcut
                    rw [encB_length, List.length_take, List.length_drop] at hcl
                    refine ww ?_
                    refine AWk_op (append_full (es := []) hT rfl rfl rfl (.inr ⟨rfl, rfl⟩) rfl (by show (([] : List (List Dat)).length + (cutL s (IntKind.i64.wrap (IntKind.i64.wrap ((a : Int) + k1) + k2)) (IntKind.i64.wrap (IntKind.i64.wrap (IntKind.i64.wrap ((a : Int) + k1) + k2) + (nn : Int)))).length) * (1 + 1) ≤ 140737488355328; rw [← hcl]; simp; omega)) rfl ?_
                    refine ww ?_
                    exact ⟨(0, .mk ts1 ((b.drop (p + a2)).take nn) [], (nn : Int), ((c + 1 : Nat) : Int)), ⟨rfl, fun _ => ⟨rfl, by simp only; omega, rfl⟩⟩, ⟨.refl _, .refl _, .int hwc, .refl _, .refl _, .refl _, .int hw2, .refl _, .refl _, .refl _, trivial⟩, ⟨ObLe.refl _, ⟨.refl _, .sl hcut.symm, .dat, trivial⟩, trivial⟩⟩
              · rintro ⟨e', nd', n', c'⟩ ⟨g1, g2⟩
                simp only at g1 g2 ⊢
                subst g1
                refine ww ?_
                refine AW_condL rfl (fun d8 => ?_) (fun d8 => ?_)
                · have d8' : e' ≠ 0 := by simpa using d8
                  rw [if_pos d8'] at hg
                  rw [hbad e' (by rw [← hg]) d8']
                  refine ww ?_
                  exact wwr
                · have d8' : ¬ e' ≠ 0 := by simpa using d8
                  rw [if_neg d8'] at hg
                  have he0 : e' = 0 := by omega
                  subst he0
                  obtain ⟨rfl, hq, rfl⟩ := g2 rfl
                  have hrd4 := hrd.2.2.2 rfl
                  have hwa : IntKind.i64.wrap ((a2 : Int) + n') = ((q9 - p : Nat) : Int) := by rw [wrap_id (by omega)]; omega
                  obtain ⟨t9, v9, k9⟩ := nd'
                  refine ww ?_
                  refine AWk_op (append_rightL (i := 0) hT rfl rfl rfl rfl rfl rfl (by show ((encNs out).length + 1) * (56 + 1) ≤ _; omega)) rfl ?_
                  refine ww ?_
                  have hres : encNs (out ++ [.mk t9 v9 k9]) = encNs out ++ [encN (.mk t9 v9 k9)] := by rw [encNs_append]; rfl
                  refine ⟨(q9 - p, c9, m, out ++ [.mk t9 v9 k9]), [.row (nCells (.mk t9 v9 k9))], ⟨by simp only; omega, by simp only; omega, by simp only; omega, by simp only [List.length_append, List.length_singleton]; omega, ?_⟩, by simp only; omega, ⟨.refl _, .refl _, .refl _, .refl _, .refl _, .slt (Eq.symm (by exact hres)), .int hwa, trivial⟩, ⟨⟨rfl, by rw [hres]; rfl⟩, ObLe.refl _, trivial⟩, Env.below_mono hE (by simp), rfl, rfl⟩
                  · simp only
                    rw [show p + (q9 - p) = q9 by omega]
                    exact hg

theorem ref_list {b : List UInt8} {st : Bool} : (listR (loopX (objX b st 9 b.length 1) b.length (b.length + 1) 0 0 []) 0).1 = (if (loopX (objX b st 9 b.length 1) b.length (b.length + 1) 0 0 []).2.1 ≠ 0 then [] else (loopX (objX b st 9 b.length 1) b.length (b.length + 1) 0 0 []).1) := by
  unfold listR
  split <;> rfl

/-- What Parse says: nothing with an error. -/
def parseS (b : List UInt8) (st : Bool) : List Node × Int := (if (parseX b st).2 ≠ 0 then [] else (parseX b st).1, (parseX b st).2)

set_option maxHeartbeats 8000000 in
set_option maxRecDepth 100000 in
theorem ParseR_spec (b : List UInt8) (st : Bool) (hb : b.length ≤ 1000000) :
    Spec Tryz.prog 13 [.d (.sl 1 (encB b)), .d (.bool st)] [] (fun r h' => r = .tup [.d (.sl 3 (encNs (parseS b st).1)), .d (.int .i64 (parseS b st).2)] ∧ h' = []) := by
  have hbl := encB_length b
  have hli := list_spec b st hb 8 1 b.length false 0 0 (b.length + 1) rfl (Nat.le_refl _) (by omega) (by omega) (by omega)
  rw [seg_whole] at hli
  simp only [genX, Bool.false_eq_true, if_false] at hli
  unfold parseS parseX
  refine Spec_of_body hT Tryz.func13 rfl rfl rfl rfl ?_; intro E hE
  refine ww ?_
  refine AW_condL rfl (fun h1 => ?_) (fun h1 => ?_)
  · have h1' : b.length > 4096 := by rw [hbl] at h1; simp at h1; omega
    rw [if_pos h1']
    refine ww ?_
    exact wwr
  · have h1' : ¬ b.length > 4096 := by rw [hbl] at h1; simp at h1; omega
    rw [if_neg h1']
    generalize loopX (objX b st 9 b.length 1) b.length (b.length + 1) 0 0 [] = kr at hli ⊢
    obtain ⟨ks, e3, p3, c3⟩ := kr
    simp only at hli ⊢
    refine ww ?_
    refine wwc hli ?_
    refine ww ?_
    refine rq ⟨rfl, rfl⟩ rfl ?_
    unfold listR
    split <;> simp_all <;> repeat (first | exact trivial | exact AV.le.refl _ | exact AV.le.dat | exact AV.le.nils | exact AV.le.nilsf | exact AV.le.any _ | exact ObLe.refl _ | exact ⟨rfl, rfl⟩ | refine AV.le.tup ?_ | refine AV.le.agg ?_ | exact li | exact lb | exact ls | exact lk | exact ld | exact lz | refine ⟨?_, ?_⟩)
end Tdoc
/- Dice: objects written with lengths of any form. -/
set_option linter.unusedVariables false
set_option linter.unusedSimpArgs false
namespace Tdoc
open Go Go.Proofs

theorem EncL.append {a b : List Node} {x y : List UInt8} (h : EncL a x) (h2 : EncL b y) : EncL (a ++ b) (x ++ y) := by
  induction h with
  | nil => exact h2
  | prim h3 h4 h5 ih => simp only [List.append_assoc, List.cons_append]; exact .prim h3 h4 ih
  | cons h3 h4 h5 h6 _ ih => simp only [List.append_assoc, List.cons_append]; exact .cons h3 h4 h5 ih
  | free h3 h4 h5 _ ih => simp only [List.append_assoc, List.cons_append]; exact .free h3 h4 ih
theorem chkL_mem {d : Nat} : ∀ {l : List Node} {n : Node}, (chkL d l 0).1 = 0 → n ∈ l → (chkN d n 0).1 = 0
  | a :: l, n, h, hm => by
    have h2 := chkL_inv h
    rcases List.mem_cons.1 hm with rfl | hm
    · exact h2.1
    · exact chkL_mem h2.2 hm
theorem len_wgt : ∀ (l : List Node), l.length ≤ wgtL l
  | [] => by simp
  | .mk t v k :: l => by have := len_wgt l; rw [wgtL, wgtN, List.length_cons]; omega

/-- What is written: loose encodings, not too long, and the dice's place. -/
def LooseP (L : List Int) (l : List Node) (x : List UInt8 × Nat) : Prop := EncL l x.1 ∧ x.1.length ≤ wgtL l ∧ x.2 ≤ L.length

theorem tagB_cut (tn : Nat) : tagB (tn : Int) = (if tn > 255 then [UInt8.ofNat (tn / 256 % 256)] else []) ++ [UInt8.ofNat (tn % 256)] := by
  have e1 : ((tn : Int) / 256 % 256).toNat = tn / 256 % 256 := by omega
  have e2 : ((tn : Int) % 256).toNat = tn % 256 := by omega
  unfold tagB
  rw [e1, e2]
  by_cases h9 : tn > 255
  · rw [if_pos (by omega), if_pos h9]; rfl
  · rw [if_neg (by omega), if_neg h9]; rfl
theorem u8_lo (n : Nat) : IntKind.u8.wrap (n : Int) = ((UInt8.ofNat (n % 256)).toNat : Int) := by rw [wrapu8_mod, toNat_ofNat (Nat.mod_lt _ (by omega))]; simp
theorem u8_hi (n : Nat) : IntKind.u8.wrap (Int.fdiv (n : Int) (2 ^ (min (8 : Int).toNat IntKind.i64.bits))) = ((UInt8.ofNat (n / 256 % 256)).toNat : Int) := by
  rw [show Int.fdiv (n : Int) (2 ^ (min (8 : Int).toNat IntKind.i64.bits)) = ((n / 256 : Nat) : Int) from shr_nat n 8, u8_lo]

set_option maxHeartbeats 8000000 in
set_option maxRecDepth 100000 in
theorem Loose_spec (L : List Int) (hL : L.length ≤ 1000000) : ∀ (N d : Nat) (l : List Node) (a : Nat), wgtL l ≤ N → (chkL d l 0).1 = 0 → wgtL l ≤ 60000 → a ≤ L.length →
    Spec Tryz.prog 14 [.ptr 0 0, .d (.sl 3 (encNs l))] [.row (diceR L a)] (fun r h' => ∃ x, LooseP L l x ∧ r = .d (.sl 1 (encB x.1)) ∧ h' = [.row (diceR L x.2)]) := by
  intro N
  induction N using Nat.strongRecOn with
  | _ N ih =>
  intro d l a hN hchk hw ha
  have hlen := encNs_length l
  have hlw := len_wgt l
  have hN := fun a ha n h1 hn => Next_spec L hL a ha n h1 hn
  refine Spec_of_body hT Tryz.func14 rfl rfl rfl rfl ?_; intro E hE
  refine AW_room ?_
  refine AW_seq (AW_region ?_)
  refine wws ?_
  refine AW_seq (AW_region ?_)
  refine wws ?_
  refine AW_acquireAt 5 1 1 (es := []) (.inr ⟨rfl, rfl⟩) rfl ?_
  refine AW_seq ?_
  refine AW_seq (AW_region ?_)
  refine wws ?_
  refine AW_block ?_
  refine AW_loopC (ι := Nat × List UInt8 × Nat) (fun x => [(0, .ptr 0 0), (1, .d (.sl 3 (encNs l))), (5, .sl 1 (encB x.2.1) (.right 1)), (6, .d (.int .i64 (x.1 : Int)))]) (fun x => [.row (diceR L x.2.2), .right 1 (encB x.2.1).length])
    (fun x => x.1 ≤ l.length ∧ EncL (l.take x.1) x.2.1 ∧ x.2.1.length ≤ wgtL (l.take x.1) ∧ x.2.2 ≤ L.length) (fun x => l.length - x.1) (0, [], a) ⟨by simp, .nil, by simp, ha⟩ ⟨.refl _, .refl _, .refl _, .refl _, trivial⟩ (HLe.refl _) ?_
  rintro ⟨i, out, a⟩ ⟨hi, henc, hol, ha⟩
  simp only at hi henc hol ha ⊢
  have hwr : IntKind.i64.wrap ((i : Int) + 1) = ((i + 1 : Nat) : Int) := by rw [wrap_id (by omega)]; simp
  have hob := encB_length out
  refine AW_seq ?_
  refine wws ?_
  refine AW_seq (AW_region ?_)
  refine wws ?_
  refine AW_condL rfl (fun h1 => ?_) (fun h1 => ?_)
  · have h1' : i < l.length := by rw [hlen] at h1; simpa using h1
    have hel : (encNs l)[((i : Int)).toNat]? = some (encN l[i]) := by simp [encNs_eq, h1']
    have hmem : l[i] ∈ l := List.getElem_mem h1'
    have hck := chkL_mem hchk hmem
    have htk : l.take (i + 1) = l.take i ++ [l[i]] := List.take_succ_eq_append_getElem h1'
    have hwt : wgtL (l.take i) + wgtN l[i] + wgtL (l.drop (i + 1)) = wgtL l := by
      have := wgtL_append (l.take (i + 1)) (l.drop (i + 1))
      rw [List.take_append_drop, htk, wgtL_append, wgtL, wgtL] at this
      omega
    generalize l[i] = x at hel hck htk hwt
    obtain ⟨t, v, k⟩ := x
    rw [encN] at hel
    have hci := chkN_inv hck
    have htr := tagOk_range hci.1
    rw [wgtN] at hwt
    obtain ⟨tn, rfl⟩ := Int.eq_ofNat_of_zero_le (show 0 ≤ t by omega)
    have hcon := ConstructedR_spec (tn : Int) (by omega)
    have hkc : (chkL (d + 1) k 0).1 = 0 := by rw [chkL_any (d + 1) k 0 (0 + 1)]; exact hci.2.2.2.2
    have hp : tagCons (tn : Int) = false → ∀ f, LenForm v.length f → EncL [.mk (tn : Int) v k] (tagB (tn : Int) ++ (f ++ (v ++ []))) := fun h f hf => .prim h hf .nil
    have hq : tagCons (tn : Int) = true → ∀ f c, EncL k c → LenForm c.length f → EncL [.mk (tn : Int) v k] (tagB (tn : Int) ++ (f ++ (c ++ []))) := fun h f c h1 hf => .cons h h1 hf .nil
    have hfr : tagCons (tn : Int) = true → ∀ c, EncL k c → EncL [.mk (tn : Int) v k] (tagB (tn : Int) ++ (128 :: (c ++ (0 :: 0 :: [])))) := fun h c h1 => .free h h1 .nil
    have hrec := fun a ha => ih (wgtL k) (by omega) (d + 1) k a (Nat.le_refl _) hkc (by omega) ha
    have htb := tagB_cut tn
    generalize hhd : (if tn > 255 then [UInt8.ofNat (tn / 256 % 256)] else []) = hd at htb
    have hhl : hd.length ≤ 1 := by rw [← hhd]; split <;> simp
    have hlo := u8_lo tn
    have hhi := u8_hi tn
    generalize tagCons (tn : Int) = con at hcon hp hq hfr
    refine AW_skip ?_
    refine AW_seq_cut (ι := List UInt8 × Nat) (fun x => [(0, .ptr 0 0), (1, .d (.sl 3 (encNs l))), (5, .sl 1 (encB (out ++ x.1)) (.right 1)), (6, .d (.int .i64 (i : Int)))]) (fun x => [.row (diceR L x.2), .right 1 (encB (out ++ x.1)).length])
      (fun x => EncL [.mk (tn : Int) v k] x.1 ∧ x.1.length ≤ 11 + v.length + wgtL k ∧ x.2 ≤ L.length) ?_ ?_
    · refine AW_block ?_
      refine AW_seq (AW_region ?_)
      refine wws ?_
      refine wwi hel ?_
      refine wws ?_
      refine AW_seq_cut (ι := Unit) (fun _ => [(0, .ptr 0 0), (1, .d (.sl 3 (encNs l))), (5, .sl 1 (encB (out ++ hd)) (.right 1)), (6, .d (.int .i64 (i : Int))), (7, .d (.int .i64 (tn : Int)))]) (fun _ => [.row (diceR L a), .right 1 (encB (out ++ hd)).length])
        (fun _ => True) ?_ (fun _ _ => ?_)
      · refine ww ?_
        refine AW_condL rfl (fun h2 => ?_) (fun h2 => ?_)
        · have h2' : tn > 255 := by simp at h2; omega
          rw [if_pos h2'] at hhd
          subst hhd
          refine ww ?_
          refine AWk_op (append_rightL (i := 1) hT rfl rfl rfl rfl rfl rfl (by show ((encB out).length + 1) * (1 + 1) ≤ _; first | omega | (simp only [encB_length, encNs_length, List.length_append, List.length_cons, List.length_nil]; omega))) rfl ?_
          refine ww ?_
          have hres : encB (out ++ [UInt8.ofNat (tn / 256 % 256)]) = encB out ++ [[Dat.int .u8 (IntKind.u8.wrap (Int.fdiv (tn : Int) (2 ^ (min (8 : Int).toNat IntKind.i64.bits))))]] := by rw [hhi, encB_append]; rfl
          exact ⟨(), trivial, ⟨.refl _, .refl _, .slt hres.symm, .refl _, .refl _, trivial⟩, ⟨ObLe.refl _, ⟨rfl, by rw [hres]⟩, trivial⟩⟩
        · have h2' : ¬ tn > 255 := by simp at h2; omega
          rw [if_neg h2'] at hhd
          subst hhd
          refine ww ?_
          rw [List.append_nil]
          exact ⟨(), trivial, ⟨.refl _, .refl _, .refl _, .refl _, .refl _, trivial⟩, HLe.refl _⟩
      refine ww ?_
      refine AWk_op (append_rightL (i := 1) hT rfl rfl rfl rfl rfl rfl (by show ((encB (out ++ hd)).length + 1) * (1 + 1) ≤ _; first | omega | (simp only [encB_length, encNs_length, List.length_append, List.length_cons, List.length_nil]; omega))) rfl ?_
      have hres : encB (out ++ hd) ++ [[Dat.int .u8 (IntKind.u8.wrap (tn : Int))]] = encB (out ++ tagB (tn : Int)) := by rw [hlo, htb, ← List.append_assoc, encB_append (out ++ hd)]; rfl
      rw [hres]
      have htl := tagB_le (tn : Int)
      generalize tagB (tn : Int) = tb at *
      refine ww ?_
      refine wwi hel ?_
      refine ww ?_
      refine wwc hcon ?_
      refine wws ?_
      refine AW_seq_cut (ι := List UInt8 × Nat) (fun x => [(0, .ptr 0 0), (1, .d (.sl 3 (encNs l))), (5, .sl 1 (encB (out ++ tb)) (.right 1)), (6, .d (.int .i64 (i : Int))), (8, .d (.sl 1 (encB x.1))), (9, .d (.bool con))]) (fun x => [.row (diceR L x.2), .right 1 (encB (out ++ tb)).length])
        (fun x => (con = true → EncL k x.1) ∧ (con = false → x.1 = v) ∧ x.1.length ≤ v.length + wgtL k ∧ x.2 ≤ L.length) ?_ ?_
      · refine ww ?_
        refine AW_condL rfl (fun h3 => ?_) (fun h3 => ?_)
        · subst h3
          refine ww ?_
          refine wwi hel ?_
          refine ww ?_
          refine AWk_opX (callX rfl rfl (hrec a ha) [0] (by decide) rfl rfl rfl rfl (fun _ => rfl) (fun _ => rfl) (fun _ => rfl)) rfl ?_
          rintro ⟨cc, a2⟩ ⟨q1, q2, q3⟩
          simp only at q1 q2 q3 ⊢
          refine ww ?_
          exact ⟨(cc, a2), ⟨fun _ => q1, (fun h => by cases h), by simp only; omega, q3⟩, ⟨.refl _, .refl _, .refl _, .refl _, .refl _, .refl _, trivial⟩, HLe.refl _⟩
        · subst h3
          refine ww ?_
          exact ⟨(v, a), ⟨(fun h => by cases h), fun _ => rfl, by simp only; omega, ha⟩, ⟨.refl _, .refl _, .refl _, .refl _, .refl _, .refl _, trivial⟩, HLe.refl _⟩
      · rintro ⟨c, a2⟩ ⟨g1, g2, g3, g4⟩
        simp only at g1 g2 g3 g4 ⊢
        have hcl := encB_length c
        have hotl := encB_length (out ++ tb)
        rw [List.length_append] at hotl
        refine AW_seq (AW_region ?_)
        refine wws ?_
        refine AW_seq_cut (ι := List UInt8 × Nat) (fun x => [(0, .ptr 0 0), (1, .d (.sl 3 (encNs l))), (5, .sl 1 (encB (out ++ tb ++ x.1)) (.right 1)), (6, .d (.int .i64 (i : Int))), (8, .d (.sl 1 (encB c)))]) (fun x => [.row (diceR L x.2), .right 1 (encB (out ++ tb ++ x.1)).length])
          (fun x => LenForm (encB c).length x.1 ∧ x.1.length ≤ 5 ∧ x.2 ≤ L.length) ?_ ?_
        · refine AW_seq (AW_region ?_)
          refine wws ?_
          refine AWk_opX (callX rfl rfl (hN a2 g4 6 (by omega) (by omega)) [0] (by decide) rfl rfl rfl rfl (fun _ => rfl) (fun _ => rfl) (fun _ => rfl)) rfl ?_
          rintro ⟨m, a3⟩ ⟨q1, q2, q3⟩
          simp only at q1 q2 q3 ⊢
          have fin : ∀ (f : List UInt8) (w : List (List Dat)) (τ : Nat → AV), encB f = w → LenForm (encB c).length f → f.length ≤ 5 → AV.le (τ 0) (.ptr 0 0) → AV.le (τ 1) (.d (.sl 3 (encNs l))) → AV.le (τ 5) (.sl 1 (encB (out ++ tb) ++ w) (.right 1)) → AV.le (τ 6) (.d (.int .i64 (i : Int))) → AV.le (τ 8) (.d (.sl 1 (encB c))) →
              ∃ x : List UInt8 × Nat, (LenForm (encB c).length x.1 ∧ x.1.length ≤ 5 ∧ x.2 ≤ L.length) ∧ SubL τ [(0, .ptr 0 0), (1, .d (.sl 3 (encNs l))), (5, .sl 1 (encB (out ++ tb ++ x.1)) (.right 1)), (6, .d (.int .i64 (i : Int))), (8, .d (.sl 1 (encB c)))] ∧ HLe [.row (diceR L a3), .right 1 (encB (out ++ tb) ++ w).length] [.row (diceR L x.2), .right 1 (encB (out ++ tb ++ x.1)).length] := by
            rintro f w τ rfl h2 h3 k0 k1 k5 k6 k8
            rw [← encB_append] at k5 ⊢
            exact ⟨(f, a3), ⟨h2, h3, q3⟩, ⟨k0, k1, k5, k6, k8, trivial⟩, HLe.refl _⟩
          have hn1 := u8_lo (encB c).length
          have hn2 := u8_hi (encB c).length
          refine ww ?_
          refine AW_condL rfl (fun e1 => ?_) (fun e1 => ?_)
          · refine ww ?_
            refine AWk_op (append_rightL (i := 1) hT rfl rfl rfl rfl rfl rfl (by show ((encB (out ++ tb)).length + 4) * (1 + 1) ≤ _; first | omega | (simp only [encB_length, encNs_length, List.length_append, List.length_cons, List.length_nil]; omega))) rfl ?_
            refine ww ?_
            exact fin _ _ _ (by rw [hn1, hn2]; rfl) .four (by simp) (.refl _) (.refl _) (.refl _) (.refl _) (.refl _)
          · refine ww ?_
            refine AW_condL rfl (fun e2 => ?_) (fun e2 => ?_)
            · refine ww ?_
              refine AWk_op (append_rightL (i := 1) hT rfl rfl rfl rfl rfl rfl (by show ((encB (out ++ tb)).length + 5) * (1 + 1) ≤ _; first | omega | (simp only [encB_length, encNs_length, List.length_append, List.length_cons, List.length_nil]; omega))) rfl ?_
              refine ww ?_
              exact fin _ _ _ (by rw [hn1, hn2]; rfl) .five (by simp) (.refl _) (.refl _) (.refl _) (.refl _) (.refl _)
            · refine ww ?_
              refine AW_condL rfl (fun e3 => ?_) (fun e3 => ?_)
              · refine AW_seq ?_
                refine ww ?_
                refine AW_condL rfl (fun e4 => ?_) (fun e4 => ?_)
                · subst e4
                  have hfr := hfr rfl c (g1 rfl)
                  refine ww ?_
                  refine AWk_op (append_rightL (i := 1) hT rfl rfl rfl rfl rfl rfl (by show ((encB (out ++ tb)).length + 1) * (1 + 1) ≤ _; first | omega | (simp only [encB_length, encNs_length, List.length_append, List.length_cons, List.length_nil]; omega))) rfl ?_
                  refine ww ?_
                  refine AWk_op (append_rightL (i := 1) hT rfl rfl rfl rfl rfl rfl (by show ((encB (out ++ tb) ++ [[Dat.int .u8 128]]).length + (encB c).length) * (1 + 1) ≤ _; first | omega | (simp only [encB_length, encNs_length, List.length_append, List.length_cons, List.length_nil]; omega))) rfl ?_
                  refine ww ?_
                  refine AWk_op (append_rightL (i := 1) hT rfl rfl rfl rfl rfl rfl (by show ((encB (out ++ tb) ++ [[Dat.int .u8 128]] ++ encB c).length + 2) * (1 + 1) ≤ _; first | omega | (simp only [encB_length, encNs_length, List.length_append, List.length_cons, List.length_nil]; omega))) rfl ?_
                  refine ww ?_
                  have hres : encB (out ++ (tb ++ (128 :: (c ++ (0 :: 0 :: []))))) = encB (out ++ tb) ++ [[Dat.int .u8 128]] ++ encB c ++ [[Dat.int .u8 0], [Dat.int .u8 0]] := by
                    rw [show tb ++ (128 :: (c ++ (0 :: 0 :: []))) = tb ++ ([128] ++ (c ++ [0, 0])) from rfl]
                    simp only [encB_append, List.append_assoc]; rfl
                  exact ⟨(tb ++ (128 :: (c ++ (0 :: 0 :: []))), a3), ⟨hfr, by simp only [List.length_append, List.length_cons, List.length_nil]; omega, q3⟩, ⟨.refl _, .refl _, .slt hres.symm, .refl _, trivial⟩, ⟨ObLe.refl _, ⟨rfl, by rw [hres]⟩, trivial⟩⟩
                · refine ww ?_
                  refine AWk_op (append_rightL (i := 1) hT rfl rfl rfl rfl rfl rfl (by show ((encB (out ++ tb)).length + 3) * (1 + 1) ≤ _; first | omega | (simp only [encB_length, encNs_length, List.length_append, List.length_cons, List.length_nil]; omega))) rfl ?_
                  refine ww ?_
                  exact fin _ _ _ (by rw [hn1, hn2]; rfl) .three (by simp) (.refl _) (.refl _) (.refl _) (.refl _) (.refl _)
              · refine ww ?_
                refine AW_condL rfl (fun e4 => ?_) (fun e4 => ?_)
                · refine ww ?_
                  refine AW_condL rfl (fun e5 => ?_) (fun e5 => ?_)
                  · have e5' : (encB c).length < 256 := by simp at e5; omega
                    rw [Nat.mod_eq_of_lt e5'] at hn1
                    refine ww ?_
                    refine AWk_op (append_rightL (i := 1) hT rfl rfl rfl rfl rfl rfl (by show ((encB (out ++ tb)).length + 2) * (1 + 1) ≤ _; first | omega | (simp only [encB_length, encNs_length, List.length_append, List.length_cons, List.length_nil]; omega))) rfl ?_
                    refine ww ?_
                    exact fin _ _ _ (by rw [hn1]; rfl) (.two e5') (by simp) (.refl _) (.refl _) (.refl _) (.refl _) (.refl _)
                  · refine ww ?_
                    refine AWk_op (append_rightL (i := 1) hT rfl rfl rfl rfl rfl rfl (by show ((encB (out ++ tb)).length + 3) * (1 + 1) ≤ _; first | omega | (simp only [encB_length, encNs_length, List.length_append, List.length_cons, List.length_nil]; omega))) rfl ?_
                    refine ww ?_
                    exact fin _ _ _ (by rw [hn1, hn2]; rfl) .three (by simp) (.refl _) (.refl _) (.refl _) (.refl _) (.refl _)
                · refine ww ?_
                  refine AW_condL rfl (fun e5 => ?_) (fun e5 => ?_)
                  · have e5' : (encB c).length < 128 := by simp at e5; omega
                    rw [Nat.mod_eq_of_lt (by omega)] at hn1
                    refine ww ?_
                    refine AWk_op (append_rightL (i := 1) hT rfl rfl rfl rfl rfl rfl (by show ((encB (out ++ tb)).length + 1) * (1 + 1) ≤ _; first | omega | (simp only [encB_length, encNs_length, List.length_append, List.length_cons, List.length_nil]; omega))) rfl ?_
                    refine ww ?_
                    exact fin _ _ _ (by rw [hn1]; rfl) (.one e5') (by simp) (.refl _) (.refl _) (.refl _) (.refl _) (.refl _)
                  · refine ww ?_
                    refine AWk_op (append_rightL (i := 1) hT rfl rfl rfl rfl rfl rfl (by show ((encB (out ++ tb)).length + 3) * (1 + 1) ≤ _; first | omega | (simp only [encB_length, encNs_length, List.length_append, List.length_cons, List.length_nil]; omega))) rfl ?_
                    refine ww ?_
                    exact fin _ _ _ (by rw [hn1, hn2]; rfl) .three (by simp) (.refl _) (.refl _) (.refl _) (.refl _) (.refl _)
        · rintro ⟨f, a3⟩ ⟨q1, q2, q3⟩
          simp only at q1 q2 q3 ⊢
          have hof := encB_length (out ++ tb ++ f)
          rw [List.length_append, List.length_append] at hof
          refine ww ?_
          refine AWk_op (append_rightL (i := 1) hT rfl rfl rfl rfl rfl rfl (by show ((encB (out ++ tb ++ f)).length + (encB c).length) * (1 + 1) ≤ _; first | omega | (simp only [encB_length, encNs_length, List.length_append, List.length_cons, List.length_nil]; omega))) rfl ?_
          refine ww ?_
          have hres : encB (out ++ (tb ++ (f ++ (c ++ [])))) = encB (out ++ tb ++ f) ++ encB c := by simp only [encB_append, List.append_assoc, List.append_nil]
          refine ⟨(tb ++ (f ++ (c ++ [])), a3), ⟨?_, by simp only [List.length_append, List.length_nil]; omega, q3⟩, ⟨.refl _, .refl _, .slt hres.symm, .refl _, trivial⟩, ⟨ObLe.refl _, ⟨rfl, by rw [hres]⟩, trivial⟩⟩
          rw [hcl] at q1
          cases con with
          | true => exact hq rfl f c (g1 rfl) q1
          | false =>
            obtain rfl := g2 rfl
            exact hp rfl f q1
    · rintro ⟨y, a2⟩ ⟨g1, g2, g3⟩
      simp only at g1 g2 g3 ⊢
      have hxx := EncL.append henc g1
      rw [← htk] at hxx
      refine ww ?_
      have hw2 : wgtL (l.take (i + 1)) = wgtL (l.take i) + (11 + v.length + wgtL k) := by rw [htk, wgtL_append, wgtL, wgtL, wgtN]; omega
      exact ⟨(i + 1, out ++ y, a2), [], ⟨by simp only; omega, hxx, by simp only [List.length_append]; omega, g3⟩, by simp only; omega, ⟨.refl _, .refl _, .refl _, .int hwr, trivial⟩, HLe.refl _, Env.below_mono hE (by simp), rfl, rfl⟩
  · have h1' : i = l.length := by rw [hlen] at h1; simp at h1; omega
    subst h1'
    rw [List.take_length] at henc hol
    refine ww ?_
    exact ret_q ⟨(out, a), ⟨henc, hol, ha⟩, rfl, rfl⟩ rfl .dat rfl rfl rfl rfl
end Tdoc
/- The reference's characters, check digits and names. -/
set_option linter.unusedVariables false
set_option linter.unusedSimpArgs false
namespace Tdoc
open Go Go.Proofs

theorem strAt_bI {s : List UInt8} {i : Nat} (h : i < s.length) : strAt s (i : Int) = bI s[i] := strAt_get h
theorem drop_cons {α : Type} {s : List α} {i : Nat} (h : i < s.length) : s.drop i = s[i] :: s.drop (i + 1) := by simp

set_option maxHeartbeats 8000000 in
set_option maxRecDepth 100000 in
theorem Value_spec (n : Int) (hn : 0 ≤ n ∧ n < 256) : Spec Tryz.prog 175 [.d (.int .u8 n)] [] (fun r h' => r = .d (.int .i64 (valC n)) ∧ h' = []) := by
  unfold valC
  refine Spec_of_body hT Tryz.func175 rfl rfl rfl rfl ?_; intro E hE
  refine ww ?_
  refine AW_condL rfl (fun h1 => ?_) (fun h1 => ?_)
  · have h1' : 48 ≤ n ∧ n ≤ 57 := by simpa using h1
    rw [if_pos h1']
    have hw : IntKind.i64.wrap (IntKind.u8.wrap (n - 48)) = n - 48 := by rw [wrapu8 (by omega), wrap_id (by omega)]
    refine ww ?_
    exact wwr
  · have h1' : ¬ (48 ≤ n ∧ n ≤ 57) := by simpa using h1
    rw [if_neg h1']
    refine ww ?_
    refine AW_condL rfl (fun h2 => ?_) (fun h2 => ?_)
    · have h2' : 65 ≤ n ∧ n ≤ 90 := by simpa using h2
      rw [if_pos h2']
      have hw : IntKind.i64.wrap (IntKind.i64.wrap (IntKind.u8.wrap (n - 65)) + 10) = n - 55 := by rw [wrapu8 (by omega), wrap_id (n := n - 65) (by omega), wrap_id (by omega)]; omega
      refine ww ?_
      exact wwr
    · have h2' : ¬ (65 ≤ n ∧ n ≤ 90) := by simpa using h2
      rw [if_neg h2']
      refine ww ?_
      refine AW_condL rfl (fun h3 => ?_) (fun h3 => ?_)
      · have h3' : n = 60 := by simpa using h3
        rw [if_pos h3']
        refine ww ?_
        exact wwr
      · have h3' : ¬ n = 60 := by simpa using h3
        rw [if_neg h3']
        refine ww ?_
        exact wwr

set_option maxHeartbeats 8000000 in
set_option maxRecDepth 100000 in
theorem ValidS_spec (s : List UInt8) (hs : s.length ≤ 1000000) : Spec Tryz.prog 174 [.d (.str s)] [] (fun r h' => r = .d (.bool (validS s)) ∧ h' = []) := by
  generalize hfin : validS s = fin
  refine Spec_of_body hT Tryz.func174 rfl rfl rfl rfl ?_; intro E hE
  refine ww ?_
  refine AW_loopL (ι := Nat) (fun i => [(0, .d (.str s)), (3, .d (.int .i64 (i : Int)))]) (fun _ => []) (fun i => i ≤ s.length ∧ validS (s.drop i) = fin) (fun i => s.length - i) 0 ⟨by omega, by simpa using hfin⟩ ⟨.refl _, .refl _, trivial⟩ (HLe.refl _) ?_
  rintro i ⟨hi, hg⟩
  have hwr : IntKind.i64.wrap ((i : Int) + 1) = ((i + 1 : Nat) : Int) := by rw [wrap_id (by omega)]; simp
  refine ww ?_
  refine AW_condL rfl (fun h1 => ?_) (fun h1 => ?_)
  · have h1' : i < s.length := by simpa using h1
    have hsa := strAt_bI h1'
    rw [drop_cons h1', validS] at hg
    have hr := bI_range s[i]
    generalize s[i] = c at hsa hg hr
    have hv := Value_spec (strAt s (i : Int)) (by rw [hsa]; exact hr)
    rw [hsa] at hv
    rw [← hsa] at hv
    refine ww ?_
    refine wwc hv ?_
    refine ww ?_
    refine AW_condL rfl (fun h2 => ?_) (fun h2 => ?_)
    · have h2' : ¬ 0 ≤ valC (bI c) := by rw [hsa] at h2; simp at h2; omega
      rw [decide_eq_false h2', Bool.false_and] at hg
      subst hg
      refine ww ?_
      exact wwr
    · have h2' : 0 ≤ valC (bI c) := by rw [hsa] at h2; simp at h2; omega
      rw [decide_eq_true h2', Bool.true_and] at hg
      refine ww ?_
      exact ⟨i + 1, ⟨by omega, hg⟩, by omega, ⟨.refl _, .int hwr, trivial⟩, HLe.refl _⟩
  · have h1' : i = s.length := by simp at h1; omega
    subst h1'
    rw [List.drop_length, validS] at hg
    subst hg
    refine ww ?_
    exact wwr

theorem wgtC_at (i : Nat) : ([AV.d (.int .i64 7), .d (.int .i64 3), .d (.int .i64 1)] : List AV)[(Int.tmod (i : Int) 3).toNat]? = some (.d (.int .i64 (wgtC i))) := by
  rw [show Int.tmod (i : Int) 3 = ((i % 3 : Nat) : Int) from Int.ofNat_tmod i 3, Int.toNat_natCast]
  unfold wgtC
  have : i % 3 = 0 ∨ i % 3 = 1 ∨ i % 3 = 2 := by omega
  rcases this with h | h | h <;> rw [h] <;> rfl
theorem wgtC_range (i : Nat) : 1 ≤ wgtC i ∧ wgtC i ≤ 7 := by unfold wgtC; split <;> (try split) <;> omega
theorem digSum_snoc : ∀ (i : Nat) (s : List UInt8) (c : UInt8), digSum i (s ++ [c]) = digSum i s + wgtC (i + s.length) * valC (bI c)
  | i, [], c => by simp [digSum]
  | i, x :: s, c => by
    rw [List.cons_append, digSum, digSum, digSum_snoc (i + 1) s c, List.length_cons]
    rw [show i + 1 + s.length = i + (s.length + 1) by omega]; omega
theorem validS_take : ∀ (s : List UInt8) (i : Nat), validS s = true → validS (s.take i) = true
  | [], i, h => by simp [validS]
  | c :: s, 0, h => rfl
  | c :: s, i + 1, h => by
    simp only [validS, Bool.and_eq_true, List.take_succ_cons] at h ⊢
    exact ⟨h.1, validS_take s i h.2⟩
theorem validS_at : ∀ {s : List UInt8} {c : UInt8}, validS s = true → c ∈ s → 0 ≤ valC (bI c)
  | x :: s, c, h, hm => by
    simp only [validS, Bool.and_eq_true, decide_eq_true_eq] at h
    rcases List.mem_cons.1 hm with rfl | hm
    · exact h.1
    · exact validS_at h.2 hm

set_option maxHeartbeats 8000000 in
set_option maxRecDepth 100000 in
theorem Digit_spec (s : List UInt8) (hs : s.length ≤ 1000000) : Spec Tryz.prog 105 [.d (.str s)] [] (fun r h' => r = .tup [.d (.str (digitF s).1), .d (.int .i64 (digitF s).2)] ∧ h' = []) := by
  have hv := ValidS_spec s hs
  unfold digitF
  generalize hvs : validS s = ok at hv
  refine Spec_of_body hT Tryz.func105 rfl rfl rfl rfl ?_; intro E hE
  refine ww ?_
  refine wwc hv ?_
  refine ww ?_
  refine AW_condL rfl (fun h1 => ?_) (fun h1 => ?_)
  · have h1' : ok = false := by simpa using h1
    subst h1'
    refine ww ?_
    exact wwr
  · have h1' : ok = true := by simpa using h1
    subst h1'
    rw [if_pos rfl]
    refine ww ?_
    refine AW_loopL (ι := Nat) (fun i => [(0, .d (.str s)), (4, .d (.int .i64 (digSum 0 (s.take i)))), (5, .d (.int .i64 (i : Int)))]) (fun _ => []) (fun i => i ≤ s.length) (fun i => s.length - i) 0 (by omega) ⟨.refl _, .refl _, .refl _, trivial⟩ (HLe.refl _) ?_
    rintro i hi
    have hwr : IntKind.i64.wrap ((i : Int) + 1) = ((i + 1 : Nat) : Int) := by rw [wrap_id (by omega)]; simp
    have hdr := digSum_range 0 (s.take i) (validS_take s i hvs)
    rw [List.length_take] at hdr
    refine ww ?_
    refine AW_condL rfl (fun h2 => ?_) (fun h2 => ?_)
    · have h2' : i < s.length := by simpa using h2
      have hsa := strAt_bI h2'
      have htk : s.take (i + 1) = s.take i ++ [s[i]] := List.take_succ_eq_append_getElem h2'
      have hsn := digSum_snoc 0 (s.take i) s[i]
      rw [← htk, List.length_take, Nat.min_eq_left (by omega), Nat.zero_add] at hsn
      have hr := bI_range s[i]
      have hval := validS_at hvs (List.getElem_mem h2')
      generalize s[i] = c at hsa hsn hr hval
      have hval2 := valC_range (bI c)
      have hva := Value_spec (strAt s (i : Int)) (by rw [hsa]; exact hr)
      have hwg := wgtC_range i
      have hix := wgtC_at i
      have htm : 0 ≤ Int.tmod (i : Int) 3 ∧ Int.tmod (i : Int) 3 < ((3 : Nat) : Int) := by rw [show Int.tmod (i : Int) 3 = ((i % 3 : Nat) : Int) from Int.ofNat_tmod i 3]; omega
      have hprod : 0 ≤ valC (bI c) * wgtC i ∧ valC (bI c) * wgtC i ≤ 35 * 7 := ⟨Int.mul_nonneg hval (by omega), Int.mul_le_mul hval2.2 hwg.2 (by omega) (by omega)⟩
      have hww : IntKind.i64.wrap (digSum 0 (s.take i) + IntKind.i64.wrap (valC (strAt s (i : Int)) * wgtC i)) = digSum 0 (s.take (i + 1)) := by
        rw [hsa, wrap_id (n := valC (bI c) * wgtC i) (by omega), wrap_id (by omega), hsn, Int.mul_comm]
      refine ww ?_
      refine wwc hva ?_
      refine ww ?_
      refine AWd_op (OpS_of_pure (arrIdx_ok hT rfl rfl rfl rfl htm hix)) rfl rfl ?_
      refine ww ?_
      exact ⟨i + 1, by omega, by omega, ⟨.refl _, .int hww, .int hwr, trivial⟩, HLe.refl _⟩
    · have h2' : i = s.length := by simp at h2; omega
      subst h2'
      rw [List.take_length] at hdr ⊢
      have hm : Int.tmod (digSum 0 s) 10 = digSum 0 s % 10 := Int.tmod_eq_emod_of_nonneg hdr.1
      have hm1 := Int.emod_nonneg (digSum 0 s) (b := 10) (by omega)
      have hm2 := Int.emod_lt_of_pos (digSum 0 s) (b := 10) (by omega)
      have hww : IntKind.u8.wrap (IntKind.i64.wrap (48 + Int.tmod (digSum 0 s) 10)) = 48 + digSum 0 s % 10 := by rw [hm, wrap_id (by omega), wrapu8 (by omega)]
      refine ww ?_
      refine AWk_step hT rfl rfl (fun e he => ⟨_, List.mem_singleton.1 he⟩) ?_
      refine ww ?_
      refine rq ⟨rfl, rfl⟩ rfl (AV.le.tup ⟨.str ?_, .refl _, trivial⟩)
      show [UInt8.ofNat (IntKind.u8.wrap (IntKind.i64.wrap (48 + Int.tmod (digSum 0 s) 10))).toNat] = digitS s
      rw [hww]; rfl

theorem nameL_cons (b : Bool) (c : UInt8) (l : List UInt8) : nameL b (c :: l) = (if c = 32 then !b && !l.isEmpty && nameL true l else decide (65 ≤ bI c ∧ bI c ≤ 90) && nameL false l) := rfl

theorem name_step {s : List UInt8} {i : Nat} (h : i < s.length) (hs : s.length ≤ 1000000) : nameL (decide (i = 0) || decide (s[i - 1]? = some 32)) (s.drop i) =
    (!((strAt s (i : Int) == 32 && ((i : Int) == 0 || (i : Int) == IntKind.i64.wrap ((s.length : Int) - 1) || strAt s (IntKind.i64.wrap ((i : Int) - 1)) == 32)) || strAt s (i : Int) != 32 && (decide (strAt s (i : Int) < 65) || decide (strAt s (i : Int) > 90))) &&
      nameL (decide (i + 1 = 0) || decide (s[i + 1 - 1]? = some 32)) (s.drop (i + 1))) := by
  have hsa := strAt_bI h
  have hsi : s[i + 1 - 1]? = some s[i] := by simp [h]
  have hwl : IntKind.i64.wrap ((s.length : Int) - 1) = ((s.length - 1 : Nat) : Int) := by rw [wrap_id (by omega)]; omega
  have hp : i ≠ 0 → (strAt s (IntKind.i64.wrap ((i : Int) - 1)) == 32) = decide (s[i - 1]? = some 32) := fun h0 => by
    rw [wrap_id (by omega), show (i : Int) - 1 = ((i - 1 : Nat) : Int) by omega, strAt_bI (by omega), List.getElem?_eq_getElem (by omega : i - 1 < s.length)]
    generalize s[i - 1]'(by omega) = c
    have hc : bI c = 32 ↔ c = 32 := byte_eq (c := c) (d := 32)
    by_cases h1 : c = 32
    · simp [h1]; rfl
    · have := mt hc.1 h1
      simp [h1, this]
  have he : (s.drop (i + 1)).isEmpty = ((i : Int) == ((s.length - 1 : Nat) : Int)) := by
    by_cases h1 : i + 1 = s.length
    · rw [show i = s.length - 1 by omega]; simp; omega
    · have h2 : ¬ (i : Int) = ((s.length - 1 : Nat) : Int) := by omega
      have h3 : s.drop (i + 1) ≠ [] := fun hh => by have := congrArg List.length hh; simp at this; omega
      rw [beq_eq_false_iff_ne.2 h2]
      cases hd : s.drop (i + 1) with
      | nil => exact absurd hd h3
      | cons a l => rfl
  have hi0 : ((i : Int) == 0) = decide (i = 0) := by
    by_cases h1 : i = 0
    · simp [h1]
    · simp [h1]
  rw [drop_cons h, nameL_cons, hwl, hsa, hsi, hi0, ← he]
  generalize s[i] = c at *
  have hc : bI c = 32 ↔ c = 32 := byte_eq (c := c) (d := 32)
  have hn0 : decide (i + 1 = 0) = false := by simp
  rw [hn0, Bool.false_or]
  by_cases h1 : c = 32
  · rw [if_pos h1]
    have h32 : bI c = 32 := hc.2 h1
    subst h1
    by_cases h0 : i = 0
    · simp [h32, h0]
    · rw [hp h0, h32]
      have hd : decide (i = 0) = false := decide_eq_false h0
      rw [hd]
      generalize decide (s[i - 1]? = some 32) = x
      generalize (s.drop (i + 1)).isEmpty = y
      simp
      generalize nameL true (s.drop (i + 1)) = z
      revert x y z
      decide
  · rw [if_neg h1]
    have h32 : ¬ bI c = 32 := mt hc.1 h1
    have h2 : decide (some c = some (32 : UInt8)) = false := by simp [h1]
    rw [h2]
    have h3 : (bI c == 32) = false := by simpa using h32
    have h4 : (bI c != 32) = true := by simpa using h32
    rw [h3, h4]
    simp only [Bool.false_and, Bool.false_or, Bool.true_and]
    congr 1
    by_cases g1 : 65 ≤ bI c <;> by_cases g2 : bI c ≤ 90 <;> simp [g1, g2] <;> omega

set_option maxHeartbeats 8000000 in
set_option maxRecDepth 100000 in
theorem Name_spec (s : List UInt8) (hs : s.length ≤ 1000000) : Spec Tryz.prog 167 [.d (.str s)] [] (fun r h' => r = .d (.bool (nameL true s)) ∧ h' = []) := by
  generalize hfin : nameL true s = fin
  refine Spec_of_body hT Tryz.func167 rfl rfl rfl rfl ?_; intro E hE
  refine ww ?_
  refine AW_loopL (ι := Nat) (fun i => [(0, .d (.str s)), (3, .d (.int .i64 (i : Int)))]) (fun _ => []) (fun i => i ≤ s.length ∧ nameL (decide (i = 0) || decide (s[i - 1]? = some 32)) (s.drop i) = fin) (fun i => s.length - i) 0 ⟨by omega, by simpa using hfin⟩ ⟨.refl _, .refl _, trivial⟩ (HLe.refl _) ?_
  rintro i ⟨hi, hg⟩
  have hwr : IntKind.i64.wrap ((i : Int) + 1) = ((i + 1 : Nat) : Int) := by rw [wrap_id (by omega)]; simp
  refine ww ?_
  refine AW_condL rfl (fun h1 => ?_) (fun h1 => ?_)
  · have h1' : i < s.length := by simpa using h1
    have hst := name_step h1' hs
    have hwi : i ≠ 0 → IntKind.i64.wrap ((i : Int) - 1) = ((i - 1 : Nat) : Int) := fun h => by rw [wrap_id (by omega)]; omega
    rw [hst] at hg
    refine ww ?_
    refine AW_condL rfl (fun h2 => ?_) (fun h2 => ?_)
    · rw [h2] at hg
      subst hg
      refine ww ?_
      exact wwr
    · rw [h2, Bool.not_false, Bool.true_and] at hg
      refine ww ?_
      exact ⟨i + 1, ⟨by omega, hg⟩, by omega, ⟨.refl _, .int hwr, trivial⟩, HLe.refl _⟩
  · have h1' : i = s.length := by simp at h1; omega
    subst h1'
    rw [List.drop_length, nameL] at hg
    subst hg
    refine ww ?_
    exact wwr
end Tdoc
/- The reference's names with fillers. -/
set_option linter.unusedVariables false
set_option linter.unusedSimpArgs false
namespace Tdoc
open Go Go.Proofs

theorem fillS_length (s : List UInt8) : (fillS s).length = s.length := by simp [fillS]
theorem byteAV_at {s : List UInt8} {i : Nat} (h : i < s.length) : (byteAV s)[i]? = some (.d (.int .u8 (bI s[i]))) := by simp [byteAV, bI, h]
theorem byteAV_set (a : List UInt8) (c x : UInt8) (b : List UInt8) : (byteAV (a ++ c :: b)).set a.length (.d (.int .u8 (bI x))) = byteAV (a ++ x :: b) := by
  simp [byteAV, bI]

set_option maxHeartbeats 8000000 in
set_option maxRecDepth 100000 in
theorem fill_spec (s : List UInt8) (hs : s.length ≤ 1000000) : Spec Tryz.prog 173 [.d (.str s)] [] (fun r h' => r = .d (.str (fillS s)) ∧ h' = []) := by
  refine Spec_of_body hT Tryz.func173 rfl rfl rfl rfl ?_; intro E hE
  refine AW_room ?_
  refine AW_seq (AW_region ?_)
  refine wws ?_
  refine AW_seq (AW_region ?_)
  refine wws ?_
  refine AWk_opR (strRow_ok (i0 := 0) hT rfl rfl rfl rfl) rfl ?_
  rintro u k ⟨cap, hcap, rfl, rfl⟩
  refine ww ?_
  refine AW_loopL (ι := Nat) (fun i => [(3, .row 0 0 s.length cap), (4, .d (.int .i64 (i : Int)))]) (fun i => [.row (byteAV (fillS (s.take i) ++ s.drop i))]) (fun i => i ≤ s.length) (fun i => s.length - i) 0 (by omega) ⟨.refl _, .refl _, trivial⟩ (HLe.refl _) ?_
  rintro i hi
  have hwr : IntKind.i64.wrap ((i : Int) + 1) = ((i + 1 : Nat) : Int) := by rw [wrap_id (by omega)]; simp
  refine ww ?_
  refine AW_condL rfl (fun h1 => ?_) (fun h1 => ?_)
  · have h1' : i < s.length := by simpa using h1
    have hdr := drop_cons h1'
    have htk : s.take (i + 1) = s.take i ++ [s[i]] := List.take_succ_eq_append_getElem h1'
    have hfl : fillS (s.take (i + 1)) = fillS (s.take i) ++ [if s[i] = 32 then 60 else s[i]] := by rw [htk]; unfold fillS; rw [List.map_append]; rfl
    have hl : (fillS (s.take i)).length = i := by rw [fillS_length, List.length_take]; omega
    have hsl : (fillS (s.take i) ++ s.drop i).length = s.length := by rw [List.length_append, hl, List.length_drop]; omega
    have hat : (byteAV (fillS (s.take i) ++ s.drop i))[0 + ((i : Int)).toNat * 1]? = some (.d (.int .u8 (bI s[i]))) := by
      rw [Int.toNat_natCast, Nat.mul_one, Nat.zero_add, byteAV_at (by rw [hsl]; exact h1')]
      rw [List.getElem_append_right (by omega)]
      simp [hl]
    have hset : ∀ x : UInt8, (byteAV (fillS (s.take i) ++ s.drop i)).set i (.d (.int .u8 (bI x))) = byteAV (fillS (s.take i) ++ x :: s.drop (i + 1)) := fun x => by
      have := byteAV_set (fillS (s.take i)) s[i] x (s.drop (i + 1))
      rw [hl] at this
      rw [hdr]; exact this
    have hbl := byteAV_length (fillS (s.take i) ++ s.drop i)
    rw [hsl] at hbl
    have hc : bI s[i] = 32 ↔ s[i] = 32 := byte_eq (c := s[i]) (d := 32)
    have hself : byteAV (fillS (s.take i) ++ s.drop i) = byteAV (fillS (s.take i) ++ s[i] :: s.drop (i + 1)) := by rw [hdr]
    generalize s[i] = c at hfl hat hc hself
    generalize byteAV (fillS (s.take i) ++ s.drop i) = row at hat hset hbl hself
    refine ww ?_
    refine AWk_op (OpS_of_pure (rowAddr_ok (sz := 1) hT rfl rfl rfl rfl ⟨by omega, by omega⟩)) rfl ?_
    refine AWk_op (load1_ok hT rfl rfl rfl rfl rfl hat) rfl ?_
    refine ww ?_
    refine AW_condL rfl (fun h2 => ?_) (fun h2 => ?_)
    · have h2' : c = 32 := by simp at h2; exact hc.1 h2
      rw [if_pos h2'] at hfl
      refine ww ?_
      refine AWk_op (OpS_of_pure (rowAddr_ok (sz := 1) hT rfl rfl rfl rfl ⟨by omega, by omega⟩)) rfl ?_
      refine AWk_op0 (store1_ok hT rfl rfl rfl rfl rfl rfl (by rw [hbl]; simp; omega)) rfl ?_
      refine ww ?_
      refine ⟨i + 1, by omega, by omega, ⟨.refl _, .int hwr, trivial⟩, ⟨ObLe.row ?_, trivial⟩⟩
      rw [hfl, List.append_assoc]
      refine Eq.trans ?_ (hset 60)
      rw [show 0 + ((i : Int)).toNat * 1 = i by simp]; rfl
    · have h2' : ¬ c = 32 := fun hh => by have := hc.2 hh; simp [this] at h2
      rw [if_neg h2'] at hfl
      refine ww ?_
      refine ⟨i + 1, by omega, by omega, ⟨.refl _, .int hwr, trivial⟩, ⟨ObLe.row ?_, trivial⟩⟩
      rw [hfl, List.append_assoc]
      exact hself
  · have h1' : i = s.length := by simp at h1; omega
    subst h1'
    rw [List.take_length, List.drop_length, List.append_nil]
    refine ww ?_
    refine AWk_op (rowStr_ok (s := fillS s) hT rfl rfl rfl rfl (fillS_length s) (fun j c hj => ?_)) rfl ?_
    · have hjl := (List.getElem?_eq_some_iff.1 hj).1
      rw [Nat.zero_add, byteAV_at hjl]
      rw [List.getElem?_eq_getElem hjl] at hj
      cases hj; rfl
    refine ww ?_
    exact wwr

theorem wideS_self {s : List UInt8} {n : Nat} (h : n ≤ s.length) : wideS s n = s := by simp [wideS, Nat.sub_eq_zero_of_le h]
theorem wideS_one {s : List UInt8} {n : Nat} (h : s.length < n) : wideS (s ++ [60]) n = wideS s n := by
  unfold wideS
  rw [List.append_assoc, List.length_append, List.length_singleton, show n - s.length = (n - (s.length + 1)) + 1 by omega, List.replicate_succ]; rfl

set_option maxHeartbeats 8000000 in
set_option maxRecDepth 100000 in
theorem Wide_spec (s : List UInt8) (w : Nat) (hs : s.length ≤ 1000000) (hw : w ≤ 1000000) : Spec Tryz.prog 101 [.d (.str s), .d (.int .i64 (w : Int))] [] (fun r h' => r = .d (.str (wideS s w)) ∧ h' = []) := by
  generalize hfin : wideS s w = fin
  refine Spec_of_body hT Tryz.func101 rfl rfl rfl rfl ?_; intro E hE
  refine ww ?_
  refine AW_loopL (ι := List UInt8) (fun t => [(0, .d (.str t)), (1, .d (.int .i64 (w : Int)))]) (fun _ => []) (fun t => t.length ≤ 2000000 ∧ wideS t w = fin) (fun t => w - t.length) s ⟨by omega, hfin⟩ ⟨.refl _, .refl _, trivial⟩ (HLe.refl _) ?_
  rintro t ⟨hl, hg⟩
  refine ww ?_
  refine AW_condL rfl (fun h1 => ?_) (fun h1 => ?_)
  · have h1' : t.length < w := by simpa using h1
    refine ww ?_
    exact ⟨t ++ [60], ⟨by simp only [List.length_append, List.length_singleton]; omega, by rw [wideS_one h1']; exact hg⟩, by simp only [List.length_append, List.length_singleton]; omega, ⟨.refl _, .refl _, trivial⟩, HLe.refl _⟩
  · have h1' : w ≤ t.length := by simp at h1; omega
    rw [wideS_self h1'] at hg
    subst hg
    refine ww ?_
    exact wwr

theorem wide_any (s : List UInt8) (w : Int) (h1 : 0 ≤ w) (hs : s.length ≤ 1000000) (hw : w ≤ 1000000) : Spec Tryz.prog 101 [.d (.str s), .d (.int .i64 w)] [] (fun r h' => r = .d (.str (wideS s w.toNat)) ∧ h' = []) := by
  obtain ⟨n, rfl⟩ := Int.eq_ofNat_of_zero_le h1
  exact Wide_spec s n hs (by omega)

set_option maxHeartbeats 8000000 in
set_option maxRecDepth 100000 in
theorem Names_spec (sur giv : List UInt8) (w : Int) (h1 : sur.length ≤ 10000) (h2 : giv.length ≤ 10000) : Spec Tryz.prog 104 [.d (.str sur), .d (.str giv), .d (.int .i64 w)] [] (fun r h' => r = .tup [.d (.str (namesF sur giv w).1), .d (.int .i64 (namesF sur giv w).2)] ∧ h' = []) := by
  have hn1 := Name_spec sur (by omega)
  have hn2 := Name_spec giv (by omega)
  have hf1 := fill_spec sur (by omega)
  have hf2 := fill_spec giv (by omega)
  have hl1 := fillS_length sur
  have hl2 := fillS_length giv
  unfold namesF namesS
  generalize nameL true sur = n1 at hn1
  generalize nameL true giv = n2 at hn2
  generalize fillS sur = f1 at hf1 hl1
  generalize fillS giv = f2 at hf2 hl2
  refine Spec_of_body hT Tryz.func104 rfl rfl rfl rfl ?_; intro E hE
  refine ww ?_
  refine wwc hn1 ?_
  refine ww ?_
  refine wwgc hn2 ?_
  refine ww ?_
  refine AW_condL rfl (fun h3 => ?_) (fun h3 => ?_)
  · have h3' : n1 = false ∨ n2 = false ∨ sur = [] := by
      cases n1 <;> cases n2 <;> simp_all
    rw [if_pos h3']
    refine ww ?_
    exact wwr
  · have h3' : ¬ (n1 = false ∨ n2 = false ∨ sur = []) := by
      cases n1 <;> cases n2 <;> simp_all
    rw [if_neg h3']
    refine ww ?_
    refine AW_condL rfl (fun h4 => ?_) (fun h4 => ?_)
    · have h4' : w < 1 ∨ w > 64 := by simpa using h4
      rw [if_pos h4']
      refine ww ?_
      exact wwr
    · have h4' : ¬ (w < 1 ∨ w > 64) := by simpa using h4
      rw [if_neg h4']
      refine ww ?_
      refine wwc hf1 ?_
      refine wws ?_
      refine AW_seq_cut (ι := Unit) (fun _ => [(0, .d (.str sur)), (1, .d (.str giv)), (2, .d (.int .i64 w)), (8, .d (.str (f1 ++ (if giv = [] then [] else [60, 60] ++ f2))))]) (fun _ => []) (fun _ => True) ?_ (fun _ _ => ?_)
      · refine ww ?_
        refine AW_condL rfl (fun h5 => ?_) (fun h5 => ?_)
        · have h5' : ¬ giv = [] := by simpa using h5
          rw [if_neg h5']
          refine ww ?_
          refine wwc hf2 ?_
          refine ww ?_
          exact ⟨(), trivial, ⟨.refl _, .refl _, .refl _, .refl _, trivial⟩, HLe.refl _⟩
        · have h5' : giv = [] := by simpa using h5
          rw [if_pos h5', List.append_nil]
          refine ww ?_
          exact ⟨(), trivial, ⟨.refl _, .refl _, .refl _, .refl _, trivial⟩, HLe.refl _⟩
      · have hnl : (f1 ++ (if giv = [] then [] else [60, 60] ++ f2)).length ≤ 30000 := by
          rw [List.length_append]; split <;> simp <;> omega
        generalize f1 ++ (if giv = [] then [] else [60, 60] ++ f2) = t at hnl
        have hwd := wide_any t w (by omega) (by omega) (by omega)
        have hwl := wideS_length t w.toNat
        generalize wideS t w.toNat = u at hwd hwl
        refine ww ?_
        refine wwc hwd ?_
        refine ww ?_
        exact wwr
end Tdoc
/- The reference's days. -/
set_option linter.unusedVariables false
set_option linter.unusedSimpArgs false
namespace Tdoc
open Go Go.Proofs

set_option maxHeartbeats 8000000 in
set_option maxRecDepth 100000 in
theorem leap_spec (y : Int) : Spec Tryz.prog 238 [.d (.int .i64 y)] [] (fun r h' => r = .d (.bool (leapR y)) ∧ h' = []) := by
  unfold leapR
  refine Spec_of_body hT Tryz.func238 rfl rfl rfl rfl ?_; intro E hE
  refine ww ?_
  refine rq ⟨rfl, rfl⟩ rfl (.bool ?_)
  by_cases h1 : y.tmod 4 = 0 <;> by_cases h2 : y = 1900 <;> simp [h1, h2]

set_option maxHeartbeats 8000000 in
set_option maxRecDepth 100000 in
theorem longM_spec (y m : Int) : Spec Tryz.prog 182 [.d (.int .i64 y), .d (.int .i64 m)] [] (fun r h' => r = .d (.int .i64 (longR y m)) ∧ h' = []) := by
  have hl := leap_spec y
  unfold longR
  generalize leapR y = lp at hl
  refine Spec_of_body hT Tryz.func182 rfl rfl rfl rfl ?_; intro E hE
  refine AW_seq (AW_region ?_)
  refine wws ?_
  refine AW_seq (AW_seq (AW_region ?_))
  refine wws ?_
  refine AW_block ?_
  refine AW_seq_cut (ι := Unit) (fun _ => [(0, .d (.int .i64 y)), (1, .d (.int .i64 m)), (5, .d (.int .i64 m)), (6, .d (.bool (decide (m = 4 ∨ m = 6 ∨ m = 9 ∨ m = 11))))]) (fun _ => []) (fun _ => True) ?_ (fun _ _ => ?_)
  · refine ww ?_
    refine AW_condL rfl (fun a1 => ?_) (fun a1 => ?_)
    · refine ww ?_
      exact ⟨(), trivial, ⟨.refl _, .refl _, .refl _, .bool (by simp at a1; simp [a1]), trivial⟩, HLe.refl _⟩
    · refine ww ?_
      refine AW_condL rfl (fun a2 => ?_) (fun a2 => ?_)
      · refine ww ?_
        exact ⟨(), trivial, ⟨.refl _, .refl _, .refl _, .bool (by simp at a2; simp [a2]), trivial⟩, HLe.refl _⟩
      · refine ww ?_
        refine AW_condL rfl (fun a3 => ?_) (fun a3 => ?_)
        · refine ww ?_
          exact ⟨(), trivial, ⟨.refl _, .refl _, .refl _, .bool (by simp at a3; simp [a3]), trivial⟩, HLe.refl _⟩
        · refine ww ?_
          exact ⟨(), trivial, ⟨.refl _, .refl _, .refl _, .bool (by simp at a1 a2 a3; by_cases h : m = 11 <;> simp [h, a1, a2, a3]), trivial⟩, HLe.refl _⟩
  · refine ww ?_
    refine AW_condL rfl (fun a1 => ?_) (fun a1 => ?_)
    · have a1' : m = 4 ∨ m = 6 ∨ m = 9 ∨ m = 11 := of_decide_eq_true a1
      rw [if_pos a1']
      refine ww ?_
      exact wwr
    · have a1' : ¬ (m = 4 ∨ m = 6 ∨ m = 9 ∨ m = 11) := of_decide_eq_false a1
      rw [if_neg a1']
      refine ww ?_
      refine AW_condL rfl (fun a2 => ?_) (fun a2 => ?_)
      · have a2' : m = 2 := by simpa using a2
        rw [if_pos a2']
        refine ww ?_
        refine wwc hl ?_
        refine ww ?_
        refine AW_condL rfl (fun a3 => ?_) (fun a3 => ?_)
        · rw [if_pos a3]
          refine ww ?_
          exact wwr
        · rw [if_neg (by simp [a3])]
          refine ww ?_
          exact wwr
      · have a2' : ¬ m = 2 := by simpa using a2
        rw [if_neg a2']
        refine ww ?_
        exact wwr

set_option maxHeartbeats 8000000 in
set_option maxRecDepth 100000 in
theorem ValidD_spec (d : Int) : Spec Tryz.prog 181 [.d (.int .i64 d)] [] (fun r h' => r = .d (.bool (decide (0 ≤ d ∧ d ≤ 73048))) ∧ h' = []) := by
  refine Spec_of_body hT Tryz.func181 rfl rfl rfl rfl ?_; intro E hE
  refine ww ?_
  refine rq ⟨rfl, rfl⟩ rfl (.bool ?_)
  by_cases h1 : 0 ≤ d <;> by_cases h2 : d ≤ 73048 <;> simp [h1, h2]

set_option maxHeartbeats 8000000 in
set_option maxRecDepth 100000 in
theorem Of_spec (y m d : Int) : Spec Tryz.prog 233 [.d (.int .i64 y), .d (.int .i64 m), .d (.int .i64 d)] [] (fun r h' => r = .tup [.d (.int .i64 (ofF y m d).1), .d (.int .i64 (ofF y m d).2)] ∧ h' = []) := by
  have hlg := longM_spec y m
  unfold ofF
  have hlr := longR_range y m
  generalize hlm : longR y m = lm at hlg hlr
  refine Spec_of_body hT Tryz.func233 rfl rfl rfl rfl ?_; intro E hE
  refine ww ?_
  refine wwgc hlg ?_
  refine ww ?_
  refine AW_condL rfl (fun c1 => ?_) (fun c1 => ?_)
  · have c1' : y < 1900 ∨ y > 2099 ∨ m < 1 ∨ m > 12 ∨ d < 1 ∨ d > lm := by simp at c1; omega
    rw [if_pos c1']
    refine ww ?_
    exact wwr
  · have c1' : ¬ (y < 1900 ∨ y > 2099 ∨ m < 1 ∨ m > 12 ∨ d < 1 ∨ d > lm) := by simp at c1; omega
    rw [if_neg c1']
    obtain ⟨yn, rfl⟩ : ∃ yn : Nat, y = 1900 + (yn : Int) := ⟨(y - 1900).toNat, by omega⟩
    obtain ⟨mn, rfl⟩ : ∃ mn : Nat, m = (mn : Int) + 1 := ⟨(m - 1).toNat, by omega⟩
    rw [show (1900 + (yn : Int) - 1900).toNat = yn by omega, show ((mn : Int) + 1 - 1).toNat = mn by omega]
    have hwd : IntKind.i64.wrap (d - 1) = d - 1 := wrap_id (by omega)
    refine wwe ?_
    refine AW_seq (AW_region ?_)
    refine wws ?_
    refine AW_seq ?_
    refine ww ?_
    refine AW_loopL (ι := Nat) (fun k => [(0, .d (.int .i64 (1900 + (yn : Int)))), (1, .d (.int .i64 ((mn : Int) + 1))), (8, .d (.int .i64 (d - 1 + yearsR k))), (9, .d (.int .i64 (1900 + (k : Int))))]) (fun _ => []) (fun k => k ≤ yn) (fun k => yn - k) 0 (by omega) ⟨.refl _, .refl _, .int (by rw [hwd]; simp [yearsR]), .refl _, trivial⟩ (HLe.refl _) ?_
    intro k hk
    have hyr := yearsR_range k
    have hlp := leap_spec (1900 + (k : Int))
    have hw1 : IntKind.i64.wrap (1900 + (k : Int) + 1) = 1900 + ((k + 1 : Nat) : Int) := by rw [wrap_id (by omega)]; omega
    have hw2 : IntKind.i64.wrap (d - 1 + yearsR k + 365) = d - 1 + yearsR k + 365 := wrap_id (by omega)
    have hw3 : IntKind.i64.wrap (IntKind.i64.wrap (d - 1 + yearsR k + 365) + 1) = d - 1 + yearsR k + 365 + 1 := by rw [hw2, wrap_id (by omega)]
    have hys : yearsR (k + 1) = yearsR k + 365 + (if leapR (1900 + (k : Int)) = true then 1 else 0) := rfl
    generalize leapR (1900 + (k : Int)) = lp at hlp hys
    refine ww ?_
    refine AW_condL rfl (fun c2 => ?_) (fun c2 => ?_)
    · have c2' : k < yn := by simp at c2; omega
      refine ww ?_
      refine wwc hlp ?_
      refine ww ?_
      refine AW_condL rfl (fun c3 => ?_) (fun c3 => ?_)
      · rw [if_pos c3] at hys
        refine ww ?_
        exact ⟨k + 1, by omega, by omega, ⟨.refl _, .refl _, .int (by rw [hw3, hys]; omega), .int hw1, trivial⟩, HLe.refl _⟩
      · rw [if_neg (by simp [c3])] at hys
        refine ww ?_
        exact ⟨k + 1, by omega, by omega, ⟨.refl _, .refl _, .int (by rw [hw2, hys]; omega), .int hw1, trivial⟩, HLe.refl _⟩
    · have c2' : k = yn := by simp at c2; omega
      subst c2'
      refine wwe ?_
      refine AW_seq ?_
      refine ww ?_
      refine AW_loopL (ι := Nat) (fun i => [(0, .d (.int .i64 (1900 + (k : Int)))), (1, .d (.int .i64 ((mn : Int) + 1))), (8, .d (.int .i64 (d - 1 + yearsR k + monthsR (1900 + (k : Int)) i))), (10, .d (.int .i64 ((i : Int) + 1)))]) (fun _ => []) (fun i => i ≤ mn) (fun i => mn - i) 0 (by omega) ⟨.refl _, .refl _, .int (by simp [monthsR]), .refl _, trivial⟩ (HLe.refl _) ?_
      intro i hi
      have hmr := monthsR_range (1900 + (k : Int)) i
      have hlg := longM_spec (1900 + (k : Int)) ((i : Int) + 1)
      have hlr2 := longR_range (1900 + (k : Int)) ((i : Int) + 1)
      have hms : monthsR (1900 + (k : Int)) (i + 1) = monthsR (1900 + (k : Int)) i + longR (1900 + (k : Int)) ((i : Int) + 1) := rfl
      generalize longR (1900 + (k : Int)) ((i : Int) + 1) = lg at hlg hlr2 hms
      have hw4 : IntKind.i64.wrap ((i : Int) + 1 + 1) = ((i + 1 : Nat) : Int) + 1 := by rw [wrap_id (by omega)]; omega
      have hw5 : IntKind.i64.wrap (d - 1 + yearsR k + monthsR (1900 + (k : Int)) i + lg) = d - 1 + yearsR k + monthsR (1900 + (k : Int)) (i + 1) := by rw [wrap_id (by omega), hms]; omega
      refine ww ?_
      refine AW_condL rfl (fun c4 => ?_) (fun c4 => ?_)
      · have c4' : i < mn := by simp at c4; omega
        refine ww ?_
        refine wwc hlg ?_
        refine ww ?_
        exact ⟨i + 1, by omega, by omega, ⟨.refl _, .refl _, .int hw5, .int hw4, trivial⟩, HLe.refl _⟩
      · have c4' : i = mn := by simp at c4; omega
        subst c4'
        refine ww ?_
        exact wwr

theorem yearsR_mono {a b : Nat} (h : a ≤ b) : yearsR a ≤ yearsR b := by
  induction h with
  | refl => exact Int.le_refl _
  | step h ih => rw [yearsR]; split <;> omega
theorem monthsR_mono (y : Int) {a b : Nat} (h : a ≤ b) : monthsR y a ≤ monthsR y b := by
  induction h with
  | refl => exact Int.le_refl _
  | @step c h ih => have := longR_range y ((c : Int) + 1); rw [monthsR]; omega
theorem monthsR_year (y : Int) : monthsR y 12 = 365 + (if leapR y = true then 1 else 0) := by
  simp only [monthsR, longR]
  cases leapR y <;> simp
theorem years100 : yearsR 100 = 36524 := by decide +kernel
theorem years200 : yearsR 200 = 73049 := by decide +kernel

def PartsP (day : Int) (x : Int × Int × Int) : Prop := 1900 ≤ x.1 ∧ x.1 ≤ 2099 ∧ 1 ≤ x.2.1 ∧ x.2.1 ≤ 12 ∧ 1 ≤ x.2.2 ∧ x.2.2 ≤ longR x.1 x.2.1 ∧ (36524 ≤ day → 2000 ≤ x.1)

set_option maxHeartbeats 8000000 in
set_option maxRecDepth 100000 in
theorem Parts_spec (day : Int) (h0 : 0 ≤ day ∧ day ≤ 73048) : Spec Tryz.prog 117 [.d (.int .i64 day)] [] (fun r h' => ∃ x, PartsP day x ∧ r = .tup [.d (.int .i64 x.1), .d (.int .i64 x.2.1), .d (.int .i64 x.2.2), .d (.int .i64 0)] ∧ h' = []) := by
  have hv := ValidD_spec day
  rw [decide_eq_true h0] at hv
  refine Spec_of_body hT Tryz.func117 rfl rfl rfl rfl ?_; intro E hE
  refine ww ?_
  refine wwc hv ?_
  refine ww ?_
  refine AW_condL rfl (fun c1 => ?_) (fun c1 => ?_)
  · exact absurd c1 (by simp)
  refine ww ?_
  refine AW_loopL (ι := Nat × Nat × Int) (fun x => [(0, .d (.int .i64 x.2.2)), (6, .d (.int .i64 (1900 + (x.1 : Int)))), (7, .d (.int .i64 ((x.2.1 : Int) + 1)))]) (fun _ => []) (fun x => 0 ≤ x.2.2 ∧ x.2.1 ≤ 11 ∧ day = yearsR x.1 + monthsR (1900 + (x.1 : Int)) x.2.1 + x.2.2) (fun x => x.2.2.toNat) (0, 0, day) ⟨by simp only; omega, by simp, by simp [yearsR, monthsR]⟩ ⟨.refl _, .refl _, .refl _, trivial⟩ (HLe.refl _) ?_
  rintro ⟨yk, mk, rest⟩ ⟨g1, g2, g3⟩
  simp only at g1 g2 g3 ⊢
  have hmr := monthsR_range (1900 + (yk : Int)) mk
  have hyk : yk ≤ 199 := by
    by_cases h : 200 ≤ yk
    · have := yearsR_mono h; rw [years200] at this; omega
    · omega
  have hyr := yearsR_range yk
  have hlg := longM_spec (1900 + (yk : Int)) ((mk : Int) + 1)
  have hlr := longR_range (1900 + (yk : Int)) ((mk : Int) + 1)
  have hms : monthsR (1900 + (yk : Int)) (mk + 1) = monthsR (1900 + (yk : Int)) mk + longR (1900 + (yk : Int)) ((mk : Int) + 1) := rfl
  have hend : rest < longR (1900 + (yk : Int)) ((mk : Int) + 1) → PartsP day (1900 + (yk : Int), (mk : Int) + 1, rest + 1) := fun h => by
    refine ⟨by simp only; omega, by simp only; omega, by simp only; omega, by simp only; omega, by simp only; omega, by simp only; omega, fun hd => ?_⟩
    simp only
    by_cases h9 : 100 ≤ yk
    · omega
    · exfalso
      have m1 := monthsR_mono (1900 + (yk : Int)) (show mk + 1 ≤ 12 by omega)
      have m2 := yearsR_mono (show yk + 1 ≤ 100 by omega)
      have m3 := monthsR_year (1900 + (yk : Int))
      rw [years100, yearsR] at m2
      omega
  generalize longR (1900 + (yk : Int)) ((mk : Int) + 1) = lg at hlg hlr hms hend
  have hw1 : IntKind.i64.wrap (rest - lg) = rest - lg := wrap_id (by omega)
  have hw2 : IntKind.i64.wrap ((mk : Int) + 1 + 1) = ((mk + 1 : Nat) : Int) + 1 := by rw [wrap_id (by omega)]; omega
  have hw3 : IntKind.i64.wrap (1900 + (yk : Int) + 1) = 1900 + ((yk + 1 : Nat) : Int) := by rw [wrap_id (by omega)]; omega
  have hw4 : IntKind.i64.wrap (rest + 1) = rest + 1 := wrap_id (by omega)
  refine ww ?_
  refine wwc hlg ?_
  refine ww ?_
  refine AW_condL rfl (fun c2 => ?_) (fun c2 => ?_)
  · have c2' : rest < lg := by simpa using c2
    refine ww ?_
    exact rq ⟨_, hend c2', rfl, rfl⟩ rfl (AV.le.tup ⟨.refl _, .refl _, .int hw4, .refl _, trivial⟩)
  · have c2' : ¬ rest < lg := by simpa using c2
    refine ww ?_
    refine AW_condL rfl (fun c3 => ?_) (fun c3 => ?_)
    · have c3' : mk = 11 := by rw [hw2] at c3; simp at c3; omega
      subst c3'
      refine ww ?_
      have m3 := monthsR_year (1900 + (yk : Int))
      refine ⟨(yk + 1, 0, rest - lg), ⟨by simp only; omega, by simp, ?_⟩, by simp only; omega, ⟨.int hw1, .int hw3, .refl _, trivial⟩, HLe.refl _⟩
      have hms2 : monthsR (1900 + (yk : Int)) 12 = monthsR (1900 + (yk : Int)) 11 + lg := hms
      show day = yearsR yk + 365 + (if leapR (1900 + (yk : Int)) = true then 1 else 0) + 0 + (rest - lg)
      generalize (if leapR (1900 + (yk : Int)) = true then (1 : Int) else 0) = z at m3
      omega
    · have c3' : mk < 11 := by rw [hw2] at c3; simp at c3; omega
      refine ww ?_
      exact ⟨(yk, mk + 1, rest - lg), ⟨by simp only; omega, by simp only; omega, by simp only; omega⟩, by simp only; omega, ⟨.int hw1, .refl _, .int hw2, trivial⟩, HLe.refl _⟩

def twoS (n : Int) : List UInt8 := [UInt8.ofNat (48 + n / 10).toNat, UInt8.ofNat (48 + n % 10).toNat]

set_option maxHeartbeats 8000000 in
set_option maxRecDepth 100000 in
theorem two_spec (n : Int) (h0 : 0 ≤ n ∧ n ≤ 99) : Spec Tryz.prog 118 [.d (.int .i64 n)] [] (fun r h' => r = .d (.str (twoS n)) ∧ h' = []) := by
  have h1 : n.tdiv 10 = n / 10 := Int.tdiv_eq_ediv_of_nonneg h0.1
  have h2 : n.tmod 10 = n % 10 := Int.tmod_eq_emod_of_nonneg h0.1
  have w1 : IntKind.u8.wrap (IntKind.i64.wrap (48 + IntKind.i64.wrap (n.tdiv 10))) = 48 + n / 10 := by rw [h1, wrap_id (n := n / 10) (by omega), wrap_id (by omega), wrapu8 (by omega)]
  have w2 : IntKind.u8.wrap (IntKind.i64.wrap (48 + n.tmod 10)) = 48 + n % 10 := by rw [h2, wrap_id (by omega), wrapu8 (by omega)]
  refine Spec_of_body hT Tryz.func118 rfl rfl rfl rfl ?_; intro E hE
  refine ww ?_
  refine AWk_step hT rfl rfl (fun e he => by simp at he; rcases he with rfl | rfl <;> exact ⟨_, rfl⟩) ?_
  refine ww ?_
  refine rq ⟨rfl, rfl⟩ rfl (.str ?_)
  show [UInt8.ofNat (IntKind.u8.wrap (IntKind.i64.wrap (48 + IntKind.i64.wrap (n.tdiv 10)))).toNat, UInt8.ofNat (IntKind.u8.wrap (IntKind.i64.wrap (48 + n.tmod 10))).toNat] = twoS n
  rw [w1, w2]; rfl

/-- The text of a day. -/
def FormatP (day : Int) (s : List UInt8) : Prop := ∃ x : Int × Int × Int, PartsP day x ∧ s = twoS (x.1 % 100) ++ twoS x.2.1 ++ twoS x.2.2

set_option maxHeartbeats 8000000 in
set_option maxRecDepth 100000 in
theorem FormatD_spec (day : Int) (h0 : 0 ≤ day ∧ day ≤ 73048) : Spec Tryz.prog 62 [.d (.int .i64 day)] [] (fun r h' => ∃ s, FormatP day s ∧ r = .tup [.d (.str s), .d (.int .i64 0)] ∧ h' = []) := by
  have hp := Parts_spec day h0
  refine Spec_of_body hT Tryz.func62 rfl rfl rfl rfl ?_; intro E hE
  refine ww ?_
  refine wwx hp ?_
  rintro ⟨y, m, d⟩ hx
  have hx' := hx
  obtain ⟨g1, g2, g3, g4, g5, g6, g7⟩ := hx
  simp only at g1 g2 g3 g4 g5 g6 g7 ⊢
  have hlr := longR_range y m
  have hm : y.tmod 100 = y % 100 := Int.tmod_eq_emod_of_nonneg (by omega)
  have h1 := two_spec (y % 100) (by omega)
  rw [← hm] at h1
  have h2 := two_spec m (by omega)
  have h3 := two_spec d (by omega)
  have l1 : (twoS (y.tmod 100)).length = 2 := rfl
  have l2 : (twoS m).length = 2 := rfl
  have l3 : (twoS d).length = 2 := rfl
  have hfin : FormatP day (twoS (y.tmod 100) ++ twoS m ++ twoS d) := ⟨(y, m, d), hx', by rw [hm]⟩
  generalize twoS (y.tmod 100) = s1 at *
  generalize twoS m = s2 at *
  generalize twoS d = s3 at *
  refine ww ?_
  refine AW_condL rfl (fun c1 => ?_) (fun c1 => ?_)
  · exact absurd c1 (by simp)
  refine ww ?_
  refine wwc h1 ?_
  refine ww ?_
  refine wwc h2 ?_
  refine ww ?_
  refine wwc h3 ?_
  refine ww ?_
  exact rq ⟨_, hfin, rfl, rfl⟩ rfl (.refl _)
end Tdoc
