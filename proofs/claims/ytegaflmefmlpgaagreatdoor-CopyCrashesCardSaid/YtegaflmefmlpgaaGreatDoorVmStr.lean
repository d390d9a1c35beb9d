/-
  The value machine, in use: bytes, and rows of cells, as slices.
  The value machine, in use: strings as lists of bytes.
-/
import Derived.Test.YtegaflmefmlpgaaGreatDoorVmUse
set_option linter.unusedVariables false
set_option linter.unusedSimpArgs false
namespace Go.VM
open Go Go.RowKit

def u8V (b : UInt8) : V := .int .u8 b.toNat
def IsBytes (v : V) (bs : List UInt8) : Prop := ∃ t, v = .sl (bs.map u8V) bs.length 1 t ∧ (t = .nil → bs = [])
theorem IsBytes.elems {v : V} {bs : List UInt8} (h : IsBytes v bs) (S : St) : v.elems S 1 = some (bs.length, bs.map u8V) := by
  obtain ⟨t, rfl, ht⟩ := h
  simp only [V.elems]
  split
  · rename_i e; rw [ht e]; rfl
  · rfl
theorem IsBytes.one {v : V} {bs : List UInt8} (h : IsBytes v bs) : v.one = true := by obtain ⟨t, rfl, _⟩ := h; rfl
theorem isBytes_nil : IsBytes (.sl [] 0 1 .nil) [] := ⟨.nil, rfl, fun _ => rfl⟩
theorem isBytes_mk (bs : List UInt8) {t : Tok} (h : t ≠ .nil) : IsBytes (.sl (bs.map u8V) bs.length 1 t) bs := ⟨t, rfl, fun e => absurd e h⟩
theorem bytesOf_u8 : ∀ bs : List UInt8, bytesOf (bs.map u8V) = some bs
  | [] => rfl
  | b :: bs => by simp [u8V, bytesOf, bytesOf_u8 bs]
theorem IsBytes.conv {v : V} {bs : List UInt8} (h : IsBytes v bs) (S : St) : V.conv S .bytesStr v = some (.str ⟨bs.toArray⟩) := by
  have e := h.elems S
  obtain ⟨t, rfl, _⟩ := h
  simp only [V.conv, e, Option.bind_some, bytesOf_u8, Option.map_some]
theorem IsBytes.len {v : V} {bs : List UInt8} (h : IsBytes v bs) : ∃ cs t, v = .sl cs bs.length 1 t := by
  obtain ⟨t, rfl, _⟩ := h; exact ⟨_, _, rfl⟩

/-! ### Rows of one length -/
theorem flat_len {sz : Nat} : ∀ {L : List (List V)}, (∀ c ∈ L, c.length = sz) → L.flatten.length = L.length * sz
  | [], _ => by simp
  | c :: L, h => by
    have h1 := h c (by simp)
    have h2 := flat_len (L := L) fun x hx => h x (by simp [hx])
    simp only [List.flatten_cons, List.length_append, List.length_cons, h1, h2, Nat.add_mul, Nat.one_mul]; omega
theorem flat_drop {sz : Nat} : ∀ {L : List (List V)} (j : Nat), (∀ c ∈ L, c.length = sz) → L.flatten.drop (j * sz) = (L.drop j).flatten
  | [], j, _ => by simp
  | c :: L, 0, h => by simp
  | c :: L, j + 1, h => by
    have h1 := h c (by simp)
    have h2 := flat_drop (L := L) j fun x hx => h x (by simp [hx])
    have e : (j + 1) * sz = c.length + j * sz := by rw [h1, Nat.add_mul, Nat.one_mul]; omega
    rw [List.flatten_cons, e, List.drop_append, List.drop_of_length_le (by omega), Nat.add_sub_cancel_left, List.nil_append, h2]
    rfl
theorem flat_take {sz : Nat} : ∀ {L : List (List V)} (j : Nat), (∀ c ∈ L, c.length = sz) → L.flatten.take (j * sz) = (L.take j).flatten
  | [], j, _ => by simp
  | c :: L, 0, h => by simp
  | c :: L, j + 1, h => by
    have h1 := h c (by simp)
    have h2 := flat_take (L := L) j fun x hx => h x (by simp [hx])
    have e : (j + 1) * sz = c.length + j * sz := by rw [h1, Nat.add_mul, Nat.one_mul]; omega
    rw [List.flatten_cons, e, List.take_append, List.take_of_length_le (by omega), Nat.add_sub_cancel_left, h2]
    rfl
theorem flat_at {sz : Nat} {L : List (List V)} {j : Nat} {c : List V} (h : ∀ c ∈ L, c.length = sz) (hc : L[j]? = some c) : (L.flatten.drop (j * sz)).take sz = c ∧ sz ≤ (L.flatten.drop (j * sz)).length := by
  have hj := (List.getElem?_eq_some_iff.1 hc).1
  have hcl := h c (List.mem_of_getElem? hc)
  rw [flat_drop j h, List.drop_eq_getElem_cons hj]
  have e : L[j] = c := (List.getElem?_eq_some_iff.1 hc).2
  rw [e, List.flatten_cons]
  constructor
  · rw [← hcl]; simp
  · simp; omega
theorem flat_get {sz : Nat} {L : List (List V)} {j : Nat} {c : List V} (h : ∀ c ∈ L, c.length = sz) (hc : L[j]? = some c) : takeC true sz (L.flatten.drop (j * sz)) = some (.agg c) := by
  obtain ⟨h1, h2⟩ := flat_at h hc
  simp only [takeC, if_true]
  rw [if_pos h2, h1]

/-- A slice of things that are so many cells each. -/
structure IsSlice {α : Type} (R : List V → α → Prop) (sz : Nat) (v : V) (l : List α) (t : Tok) where
  ex : ∃ L : List (List V), v = .sl L.flatten l.length sz t ∧ (t = .nil → l = []) ∧ (∀ c ∈ L, c.length = sz) ∧ L.length = l.length ∧ ∀ (j : Nat) (c : List V) (x : α), L[j]? = some c → l[j]? = some x → R c x

theorem isSlice_nil {α : Type} (R : List V → α → Prop) (sz : Nat) : IsSlice R sz (.sl [] 0 sz .nil) [] .nil :=
  ⟨[], rfl, fun _ => rfl, fun _ h => (by cases h), rfl, fun j c x h => by simp at h⟩
theorem IsSlice.one {α : Type} {R : List V → α → Prop} {sz : Nat} {v : V} {l : List α} {t : Tok} (h : IsSlice R sz v l t) : v.one = true := by
  obtain ⟨L, rfl, _⟩ := h.ex; rfl
theorem IsSlice.len {α : Type} {R : List V → α → Prop} {sz : Nat} {v : V} {l : List α} {t : Tok} (h : IsSlice R sz v l t) : ∃ cs, v = .sl cs l.length sz t := by
  obtain ⟨L, rfl, _⟩ := h.ex; exact ⟨_, rfl⟩
/-- The element at a place. -/
theorem IsSlice.at_ {α : Type} {R : List V → α → Prop} {sz : Nat} {v : V} {l : List α} {t : Tok} (h : IsSlice R sz v l t) {j : Nat} {x : α} (hx : l[j]? = some x) :
    ∃ cs c, v = .sl cs l.length sz t ∧ t ≠ .nil ∧ j < l.length ∧ takeC true sz (cs.drop (j * sz)) = some (.agg c) ∧ c.length = sz ∧ (cs.drop (j * sz)).take sz = c ∧ R c x := by
  obtain ⟨L, rfl, hn, hs, hl, hR⟩ := h.ex
  have hj := (List.getElem?_eq_some_iff.1 hx).1
  have hc : L[j]? = some (L[j]'(by omega)) := List.getElem?_eq_getElem (by omega)
  exact ⟨_, _, rfl, fun e => by rw [hn e] at hj; simp at hj, hj, flat_get hs hc, hs _ (List.getElem_mem _), (flat_at hs hc).1, hR j _ x hc hx⟩
theorem IsSlice.app {α : Type} {R : List V → α → Prop} {sz : Nat} {cs : List V} {n : Nat} {l : List α} {t t' : Tok} (h : IsSlice R sz (.sl cs n sz t) l t) {c : List V} {x : α} (hc : c.length = sz) (hx : R c x) (ht : t' ≠ .nil) :
    IsSlice R sz (.sl (cs ++ c) (n + 1) sz t') (l ++ [x]) t' := by
  obtain ⟨L, e, hn, hs, hl, hR⟩ := h.ex
  injection e with e1 e2
  subst e1; subst e2
  refine ⟨L ++ [c], by simp, fun e => absurd e ht, fun y hy => ?_, by simp [hl], fun j y z hy hz => ?_⟩
  · rcases List.mem_append.1 hy with hy | hy
    · exact hs y hy
    · simp at hy; subst hy; exact hc
  · rcases Nat.lt_or_ge j L.length with h | h
    · rw [List.getElem?_append_left h] at hy
      rw [List.getElem?_append_left (by omega)] at hz
      exact hR j y z hy hz
    · rw [List.getElem?_append_right h] at hy
      rw [List.getElem?_append_right (by omega)] at hz
      have : j - L.length = 0 := by
        rcases Nat.eq_zero_or_pos (j - L.length) with h0 | h0
        · exact h0
        · rw [List.getElem?_eq_none (by simp; omega)] at hy; cases hy
      rw [this] at hy
      rw [← hl, this] at hz
      simp at hy hz
      subst hy; subst hz; exact hx

theorem w64 {x : Int} (h1 : -9223372036854775808 ≤ x) (h2 : x < 9223372036854775808) : IntKind.i64.wrap x = x := by
  rw [IntKind.wrap_i64]; omega
theorem wu64 {x : Int} (h1 : 0 ≤ x) (h2 : x < 18446744073709551616) : IntKind.u64.wrap x = x := by
  rw [IntKind.wrap_u64]; omega
theorem wu8 {x : Int} (h1 : 0 ≤ x) (h2 : x < 256) : IntKind.u8.wrap x = x := by
  rw [IntKind.wrap_u8]; omega
end Go.VM

namespace Go.VM
open Go Go.RowKit

def mkS (l : List UInt8) : ByteArray := ⟨l.toArray⟩
theorem mkS_toList (l : List UInt8) : (mkS l).toList = l := by simp [mkS, ByteArray.toList_mk]
theorem mkS_of (s : ByteArray) : ∃ l, s = mkS l := ⟨s.data.toList, by cases s; simp [mkS]⟩
theorem mkS_data (l : List UInt8) : (mkS l).data.toList = l := by simp [mkS]
theorem mkS_inj {a b : List UInt8} : mkS a = mkS b ↔ a = b := ⟨fun h => by rw [← mkS_toList a, h, mkS_toList], fun h => by rw [h]⟩
theorem mkS_size (l : List UInt8) : (mkS l).size = l.length := (rfl)
theorem mkS_get (l : List UInt8) (j : Nat) : (mkS l)[j]? = l[j]? := by
  by_cases h : j < l.length
  · rw [List.getElem?_eq_getElem h]
    rw [getElem?_pos (mkS l) j h]
    rfl
  · rw [List.getElem?_eq_none (by omega)]
    exact getElem?_neg (mkS l) j h
theorem mkS_append (a b : List UInt8) : mkS a ++ mkS b = mkS (a ++ b) := by
  apply ByteArray.ext
  simp [mkS]
theorem mkS_extract (l : List UInt8) (i j : Nat) : (mkS l).extract i j = mkS ((l.drop i).take (j - i)) := by
  apply ByteArray.ext
  simp [mkS, ByteArray.data_extract]
theorem mkS_beq (a b : List UInt8) : (mkS a == mkS b) = decide (a = b) := by
  show ((mkS a).data == (mkS b).data) = _
  simp only [mkS]
  by_cases h : a = b <;> simp [h]

theorem bytesLess_lt : ∀ x y : List UInt8, Op.bytesLess x y = decide (x < y)
  | [], [] => by simp [Op.bytesLess]
  | [], y :: ys => by simp [Op.bytesLess]
  | x :: xs, [] => by simp [Op.bytesLess]
  | x :: xs, y :: ys => by
    rw [Op.bytesLess, bytesLess_lt xs ys]
    simp only [List.cons_lt_cons_iff]
    by_cases h : x < y
    · simp [h]
    · by_cases h2 : x = y
      · subst h2; simp
      · simp [h, h2]

theorem toList_beq (a b : List UInt8) : ((mkS a).toList == (mkS b).toList) = decide (a = b) := by
  rw [mkS_toList, mkS_toList]
  by_cases h : a = b <;> simp [h]
theorem str_eql (a b : List UInt8) : binStr .eql (mkS a) (mkS b) = some (.bool (decide (a = b))) := by simp only [binStr, toList_beq]
theorem str_neq (a b : List UInt8) : binStr .neq (mkS a) (mkS b) = some (.bool (!decide (a = b))) := by simp only [binStr, toList_beq]
theorem str_lss (a b : List UInt8) : binStr .lss (mkS a) (mkS b) = some (.bool (decide (a < b))) := by simp only [binStr, mkS_toList, bytesLess_lt]
theorem eqLs_nil : eqLs [] [] [] = some true := rfl
theorem eqLs_int (ks : List KK) (k : IntKind) (a b : Int) (cs ds : List V) : eqLs (.int :: ks) (.int k a :: cs) (.int k b :: ds) = if a = b then eqLs ks cs ds else some false := by
  have e : V.keyEq .int (.int k a) (.int k b) = some (decide (a = b)) := by
    simp only [V.keyEq, true_and, if_pos]; congr 1
  rw [eqLs, e]
  by_cases h : a = b
  · rw [if_pos h, decide_eq_true h]
  · rw [if_neg h, decide_eq_false h]
theorem eqLs_str (ks : List KK) (a b : List UInt8) (cs ds : List V) : eqLs (.str :: ks) (.str (mkS a) :: cs) (.str (mkS b) :: ds) = if a = b then eqLs ks cs ds else some false := by
  have e : V.keyEq .str (.str (mkS a)) (.str (mkS b)) = some (decide (a = b)) := by
    simp only [V.keyEq, if_pos]
    rw [beq_toListBytes, toList_beq]
  rw [eqLs, e]
  by_cases h : a = b
  · rw [if_pos h, decide_eq_true h]
  · rw [if_neg h, decide_eq_false h]
theorem eqLs_bool (ks : List KK) (a b : Bool) (cs ds : List V) : eqLs (.bool :: ks) (.bool a :: cs) (.bool b :: ds) = if a = b then eqLs ks cs ds else some false := by
  have e : V.keyEq .bool (.bool a) (.bool b) = some (decide (a = b)) := by
    cases a <;> cases b <;> rfl
  rw [eqLs, e]
  by_cases h : a = b
  · rw [if_pos h, decide_eq_true h]
  · rw [if_neg h, decide_eq_false h]
theorem str_add (a b : List UInt8) : binStr .add (mkS a) (mkS b) = if ((a.length + b.length : Nat) : Int) > 9223372036854775807 then none else some (.str (mkS (a ++ b))) := by
  simp only [binStr, mkS_size, mkS_append]; rfl
theorem str_add' {a b : List UInt8} (h : a.length + b.length ≤ 1000000000000) : binStr .add (mkS a) (mkS b) = some (.str (mkS (a ++ b))) := by
  rw [str_add, if_neg (by omega)]
theorem keyEq_str (a b : List UInt8) : V.keyEq .str (.str (mkS a)) (.str (mkS b)) = some (decide (a = b)) := by
  simp only [V.keyEq, if_true, mkS_beq]
theorem mkS_bytes (bs : List UInt8) : (⟨bs.toArray⟩ : ByteArray) = mkS bs := (rfl)
theorem IsBytes.convS {v : V} {bs : List UInt8} (h : IsBytes v bs) (S : St) : V.conv S .bytesStr v = some (.str (mkS bs)) := h.conv S

/-- What is told by a slice of bytes, wherever they lie. -/
theorem conv_elems {S : St} {v : V} {n : Nat} {bs : List UInt8} (h : v.elems S 1 = some (n, bs.map u8V)) (hs : ∀ s, v ≠ .str s) : V.conv S .bytesStr v = some (.str (mkS bs)) := by
  cases v <;> simp only [V.conv, h, Option.bind_some, bytesOf_u8, Option.map_some] <;> first | rfl | exact absurd rfl (hs _)

theorem isKey_str (s : ByteArray) : V.isKey .str (.str s) = true := (rfl)
theorem isKey_int (k : IntKind) (n : Int) : V.isKey .int (.int k n) = true := (rfl)
theorem isKey_bool (b : Bool) : V.isKey .bool (.bool b) = true := (rfl)

theorem St.set_set (S : St) (i : Nat) (a b : AObj) : (S.set i a).set i b = S.set i b := by
  simp only [St.set, St.mk.injEq, and_true]
  funext j
  by_cases h : j = i <;> simp [h]


theorem dec_eq {p q : Prop} [Decidable p] [Decidable q] (h : p ↔ q) : decide p = decide q := by simp only [h]
theorem dec_not {p q : Prop} [Decidable p] [Decidable q] (h : p ↔ ¬ q) : decide p = !decide q := by rw [← decide_not]; exact dec_eq h
end Go.VM
