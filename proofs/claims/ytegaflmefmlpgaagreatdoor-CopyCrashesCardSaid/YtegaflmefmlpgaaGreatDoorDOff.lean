/-
  DiskOff. NEWPP
-/
import Derived.Test.YtegaflmefmlpgaaGreatDoorDAbs
set_option linter.unusedVariables false
set_option linter.unusedSimpArgs false
namespace Go.VM
open Go Go.RowKit Go.Proofs

/-- A call of a script. -/
structure DAct where
  kind : UInt8
  name : List UInt8
  to : List UInt8
  p : List UInt8
  n : Int
  keep : List Int
def DActR (c : List V) (a : DAct) : Prop := ∃ d k t, c = [.int .u8 a.kind.toNat, .str (mkS a.name), .str (mkS a.to), d, .int .i64 a.n, k] ∧ IsBytes d a.p ∧ k = intsV a.keep t ∧ (t = .nil → a.keep = [])
structure DAct.Small (a : DAct) : Prop where
  name : a.name.length ≤ 1000000000000000
  to : a.to.length ≤ 1000000000000000
  p : a.p.length ≤ 1000000000000000
  keep : a.keep.length ≤ 1000000000000000
  n : -9223372036854775808 ≤ a.n ∧ a.n ≤ 9223372036854775807
theorem IsSlice.at2 {α : Type} {R : List V → α → Prop} {sz : Nat} {v : V} {l : List α} {t : Tok} (h : IsSlice R sz v l t) {j : Nat} {x : α} (hx : l[j]? = some x) :
    ∃ cs c, v = .sl cs l.length sz t ∧ t ≠ .nil ∧ j < l.length ∧ sz ≤ (cs.drop (j * sz)).length ∧ (cs.drop (j * sz)).take sz = c ∧ c.length = sz ∧ R c x := by
  obtain ⟨L, rfl, hn, hs, hl, hR⟩ := h.ex
  have hj := (List.getElem?_eq_some_iff.1 hx).1
  have hc : L[j]? = some (L[j]'(by omega)) := List.getElem?_eq_getElem (by omega)
  exact ⟨_, _, rfl, fun e => by rw [hn e] at hj; simp at hj, hj, (flat_at hs hc).2, (flat_at hs hc).1, hs _ (List.getElem_mem _), hR j _ x hc hx⟩

theorem change_off {D : DS} {s : List UInt8} (F : DS → File → DS) (hn : nameOk s = true) (ho : D.off = true) : D.change s F = (10, D) := by
  unfold DS.change; rw [if_neg (by simp [hn]), if_pos ho]
theorem rename_off {D : DS} {s t : List UInt8} (hn : nameOk s = true) (ht : nameOk t = true) (hst : s ≠ t) (ho : D.off = true) : D.rename s t = (10, D) := by
  unfold DS.rename; rw [if_neg (by simp [hn, ht]), if_neg hst, if_neg (by simp [ho]), change_off _ hn ho]

theorem u8_rem8 (k : UInt8) : (k.toNat : Int).tmod 8 = ((k.toNat % 8 : Nat) : Int) := by
  rw [Int.tmod_eq_emod_of_nonneg (by omega)]; omega

theorem one_grow {p q : List UInt8} {sure : Nat} {room used ops : Int} (h : (q.length : Int) ≤ room - used) : (⟨[⟨[97], p, sure⟩], room, used, ops, 0, false⟩ : DS).grow [97] q false = (0, ⟨[⟨[97], p ++ q, sure⟩], room, used + q.length, IntKind.i64.wrap (ops + 1), 0, false⟩) := by
  rw [grow_done (by decide) rfl (by simp) (by simp only; omega)]
  rfl
theorem none_grow {q : List UInt8} {room ops : Int} (h : (q.length : Int) ≤ room) : (⟨[], room, 0, ops, 0, false⟩ : DS).grow [97] q false = (0, ⟨[⟨[97], q, 0⟩], room, 0 + q.length, IntKind.i64.wrap (ops + 1), 0, false⟩) := by
  rw [grow_done (by decide) rfl (by simp) (by simp only; omega)]
  rfl
theorem one_sync {p : List UInt8} {sure : Nat} {room used ops : Int} : (⟨[⟨[97], p, sure⟩], room, used, ops, 0, false⟩ : DS).sync [97] = (0, ⟨[⟨[97], p, p.length⟩], room, used, IntKind.i64.wrap (ops + 1), 0, false⟩) := by
  rfl

end Go.VM
