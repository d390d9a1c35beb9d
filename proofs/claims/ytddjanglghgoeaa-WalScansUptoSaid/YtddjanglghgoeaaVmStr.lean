/-
  The value machine, in use: strings as lists of bytes.
-/
import Derived.Test.YtddjanglghgoeaaVmData
set_option linter.unusedVariables false
set_option linter.unusedSimpArgs false
namespace Go.VM
open Go Go.RowKit

def mkS (l : List UInt8) : ByteArray := ⟨l.toArray⟩
theorem mkS_toList (l : List UInt8) : (mkS l).toList = l := by simp [mkS, ByteArray.toList_mk]
theorem mkS_of (s : ByteArray) : ∃ l, s = mkS l := ⟨s.data.toList, by cases s; simp [mkS]⟩
theorem mkS_data (l : List UInt8) : (mkS l).data.toList = l := by simp [mkS]
theorem mkS_inj {a b : List UInt8} : mkS a = mkS b ↔ a = b := ⟨fun h => by rw [← mkS_toList a, h, mkS_toList], fun h => by rw [h]⟩
theorem mkS_size (l : List UInt8) : (mkS l).size = l.length := (rfl)
theorem mkS_get (l : List UInt8) (j : Nat) : (mkS l)[j]? = l[j]? := by
  by_cases h : j < l.length
  · rw [List.getElem?_eq_getElem h]
    rw [getElem?_pos (mkS l) j h]
    rfl
  · rw [List.getElem?_eq_none (by omega)]
    exact getElem?_neg (mkS l) j h
theorem mkS_append (a b : List UInt8) : mkS a ++ mkS b = mkS (a ++ b) := by
  apply ByteArray.ext
  simp [mkS]
theorem mkS_extract (l : List UInt8) (i j : Nat) : (mkS l).extract i j = mkS ((l.drop i).take (j - i)) := by
  apply ByteArray.ext
  simp [mkS, ByteArray.data_extract]
theorem mkS_beq (a b : List UInt8) : (mkS a == mkS b) = decide (a = b) := by
  show ((mkS a).data == (mkS b).data) = _
  simp only [mkS]
  by_cases h : a = b <;> simp [h]

theorem bytesLess_lt : ∀ x y : List UInt8, Op.bytesLess x y = decide (x < y)
  | [], [] => by simp [Op.bytesLess]
  | [], y :: ys => by simp [Op.bytesLess]
  | x :: xs, [] => by simp [Op.bytesLess]
  | x :: xs, y :: ys => by
    rw [Op.bytesLess, bytesLess_lt xs ys]
    simp only [List.cons_lt_cons_iff]
    by_cases h : x < y
    · simp [h]
    · by_cases h2 : x = y
      · subst h2; simp
      · simp [h, h2]

theorem toList_beq (a b : List UInt8) : ((mkS a).toList == (mkS b).toList) = decide (a = b) := by
  rw [mkS_toList, mkS_toList]
  by_cases h : a = b <;> simp [h]
theorem str_eql (a b : List UInt8) : binStr .eql (mkS a) (mkS b) = some (.bool (decide (a = b))) := by simp only [binStr, toList_beq]
theorem str_neq (a b : List UInt8) : binStr .neq (mkS a) (mkS b) = some (.bool (!decide (a = b))) := by simp only [binStr, toList_beq]
theorem str_lss (a b : List UInt8) : binStr .lss (mkS a) (mkS b) = some (.bool (decide (a < b))) := by simp only [binStr, mkS_toList, bytesLess_lt]
theorem str_add (a b : List UInt8) : binStr .add (mkS a) (mkS b) = if ((a.length + b.length : Nat) : Int) > 9223372036854775807 then none else some (.str (mkS (a ++ b))) := by
  simp only [binStr, mkS_size, mkS_append]; rfl
theorem str_add' {a b : List UInt8} (h : a.length + b.length ≤ 1000000000000) : binStr .add (mkS a) (mkS b) = some (.str (mkS (a ++ b))) := by
  rw [str_add, if_neg (by omega)]
theorem keyEq_str (a b : List UInt8) : V.keyEq .str (.str (mkS a)) (.str (mkS b)) = some (decide (a = b)) := by
  simp only [V.keyEq, if_true, mkS_beq]
theorem mkS_bytes (bs : List UInt8) : (⟨bs.toArray⟩ : ByteArray) = mkS bs := (rfl)
theorem IsBytes.convS {v : V} {bs : List UInt8} (h : IsBytes v bs) (S : St) : V.conv S .bytesStr v = some (.str (mkS bs)) := h.conv S

/-- What is told by a slice of bytes, wherever they lie. -/
theorem conv_elems {S : St} {v : V} {n : Nat} {bs : List UInt8} (h : v.elems S 1 = some (n, bs.map u8V)) (hs : ∀ s, v ≠ .str s) : V.conv S .bytesStr v = some (.str (mkS bs)) := by
  cases v <;> simp only [V.conv, h, Option.bind_some, bytesOf_u8, Option.map_some] <;> first | rfl | exact absurd rfl (hs _)

theorem isKey_str (s : ByteArray) : V.isKey .str (.str s) = true := (rfl)
theorem isKey_int (k : IntKind) (n : Int) : V.isKey .int (.int k n) = true := (rfl)
theorem isKey_bool (b : Bool) : V.isKey .bool (.bool b) = true := (rfl)

theorem St.set_set (S : St) (i : Nat) (a b : AObj) : (S.set i a).set i b = S.set i b := by
  simp only [St.set, St.mk.injEq, and_true]
  funext j
  by_cases h : j = i <;> simp [h]


theorem dec_eq {p q : Prop} [Decidable p] [Decidable q] (h : p ↔ q) : decide p = decide q := by simp only [h]
theorem dec_not {p q : Prop} [Decidable p] [Decidable q] (h : p ↔ ¬ q) : decide p = !decide q := by rw [← decide_not]; exact dec_eq h
end Go.VM
