/-
  The value machine: the operations that change nothing: the model tells what the value machine tells.
-/
import Derived.Test.YtddjanglghgoeaaVmFI
set_option linter.unusedVariables false
set_option linter.unusedSimpArgs false
namespace Go.VM
open Go Go.RowKit

section
variable {P : Program} {w0 w : World} {g : G} {S : St} {n : Nat} {fr : Fr} {a : Act}

theorem rel_bool {v : Bool} {u : Value} (h : RelV g (.bool v) u) : u = .bool v := h
theorem rel_int {k : IntKind} {m : Int} {u : Value} (h : RelV g (.int k m) u) : u = .int k m := h
theorem rel_str {s : ByteArray} {u : Value} (h : RelV g (.str s) u) : u = .string s := h

theorem idx_rel {v : V} {u : Value} {j : Nat} (h : RelV g v u) (hj : v.idx = some j) : ∃ k, u = .int k (j : Int) := by
  cases v <;> simp only [V.idx] at hj <;> try (cases hj; done)
  rename_i k m
  split at hj
  · rename_i hm
    injection hj with hj
    refine ⟨k, ?_⟩
    rw [rel_int h, ← hj]
    congr 1
    omega
  · cases hj

theorem simBin {op : BinOp} {x y v : V} {u u' : Value} (hx : RelV g x u) (hy : RelV g y u') (hv : V.bin op x y = some v) (t : TypeId) (x' y' : Operand) :
    ∃ r, (do eqGuard op t x' y' u u'; Go.binOp op t u u' : Sem Value).run P w = .ok r w ∧ RelV g v r := by
  unfold V.bin at hv
  split at hv
  · rename_i k p k' q
    rw [rel_int hx, rel_int hy]
    have hg : (eqGuard op t x' y' (.int k p) (.int k' q)).run P w = .ok () w := by
      unfold eqGuard
      split <;> simp
    simp only [Sem.run_bind, hg, Result.andThen_ok]
    split at hv
    · split at hv
      · cases hv
      · rename_i hq
        injection hv with hv; subst hv
        exact ⟨_, by simp [Go.binOp, Op.shift, hq], rfl⟩
    · split at hv
      · cases hv
      · rename_i hq
        injection hv with hv; subst hv
        exact ⟨_, by simp [Go.binOp, Op.shift, hq], rfl⟩
    · rename_i h1 h2
      split at hv
      · rename_i hk
        subst hk
        cases op <;> simp only [binInt, bitsV, Option.map_some, Option.map_none] at hv <;> (try (cases hv; done)) <;> (try (exact absurd rfl h1)) <;> (try (exact absurd rfl h2))
        all_goals (try (split at hv <;> (try (cases hv; done))))
        all_goals (injection hv with hv; subst hv)
        all_goals (refine ⟨_, ?_, rfl⟩)
        all_goals (first | (simp [Go.binOp, Op.intArith, Op.intDiv, Op.intBits, Op.intCmp]; done) | (rename_i hq; simp [Go.binOp, Op.intArith, Op.intDiv, Op.intBits, Op.intCmp, hq]))
      · cases hv
  · rename_i p q
    rw [rel_str hx, rel_str hy]
    have hg : (eqGuard op t x' y' (.string p) (.string q)).run P w = .ok () w := by
      unfold eqGuard
      split <;> simp
    simp only [Sem.run_bind, hg, Result.andThen_ok]
    cases op <;> simp only [binStr] at hv <;> (try (cases hv; done))
    · split at hv
      · cases hv
      · rename_i hq
        injection hv with hv; subst hv
        exact ⟨_, by simp only [Go.binOp, Op.stringOp]; rw [if_neg hq]; rfl, rfl⟩
    all_goals
      injection hv with hv; subst hv
      exact ⟨_, by simp only [Go.binOp, Op.stringOp]; rfl, rfl⟩
  · cases hv

theorem simUn {op : UnOp} {x v : V} {u : Value} (hx : RelV g x u) (hv : V.un op x = some v) : ∃ r, (Op.unary op u).run P w = .ok r w ∧ RelV g v r := by
  unfold V.un at hv
  split at hv
  · rw [rel_int hx]
    split at hv <;> (try (cases hv; done))
    · injection hv with hv; subst hv
      exact ⟨_, by simp [Op.unary, Op.intArith], rfl⟩
    · simp only [bitsV, Option.map_some] at hv
      injection hv with hv; subst hv
      exact ⟨_, by simp [Op.unary, Op.intBits], rfl⟩
  · rw [rel_bool hx]
    split at hv <;> (try (cases hv; done))
    injection hv with hv; subst hv
    exact ⟨_, by simp [Op.unary], rfl⟩
  · cases hv

theorem rel_ptr {p : Option (Nat × Nat)} {u : Value} (h : RelV g (.ptr p) u) : ∃ q : Option Addr, u = .pointer q ∧ q.isNone = p.isNone := by
  cases p with
  | none => exact ⟨none, h, rfl⟩
  | some p => obtain ⟨i, o⟩ := p; exact ⟨_, h.2, rfl⟩
theorem rel_eptr {cs : List V} {u : Value} (h : RelV g (.eptr cs) u) : ∃ q : Addr, u = .pointer (some q) := by
  obtain ⟨_, _, _, rfl, _⟩ := h
  exact ⟨_, rfl⟩
theorem rel_sl {cs : List V} {m sz : Nat} {t : Tok} {u : Value} (h : RelV g (.sl cs m sz t) u) : ∃ (q : Option Addr) (c : Nat), u = .slice q m c ∧ q.isNone = (t == .nil) := by
  obtain ⟨_, h⟩ := h
  rcases h with ⟨rfl, rfl, _, rfl⟩ | ⟨ht, _, _, _, _, rfl, _⟩ | ⟨ht, rfl, _, x, rfl⟩
  · exact ⟨none, 0, rfl, rfl⟩
  · exact ⟨_, _, rfl, by simpa using ht⟩
  · exact ⟨some x, 0, rfl, by rcases ht with rfl | rfl <;> rfl⟩
theorem rel_msl {o off m sz : Nat} {u : Value} (h : RelV g (.msl o off m sz) u) : ∃ (q : Addr) (c : Nat), u = .slice (some q) m c := by
  obtain ⟨_, c, rfl, _⟩ := h
  exact ⟨_, _, rfl⟩
theorem rel_map {r : Option Nat} {u : Value} (h : RelV g (.map r) u) : ∃ q : Option Nat, u = .map q ∧ q.isNone = r.isNone := by
  cases r with
  | none => exact ⟨none, h, rfl⟩
  | some r => exact ⟨_, h.2, rfl⟩
theorem rel_func {f : FuncId} {pre cap : List V} {u : Value} (h : RelV g (.func f pre cap) u) : ∃ a b c, u = .func a b c := by
  obtain ⟨_, _, rfl, _⟩ := h
  exact ⟨_, _, _, rfl⟩
theorem rel_iface {t : TypeId} {v : V} {u : Value} (h : RelV g (.iface t v) u) : ∃ x, u = .iface t x ∧ RelV g v x := h

theorem simEq {k : TK} {t : TypeId} (hk : chkTK P t k = true) {x y : V} {b : Bool} {u u' : Value} (hx : RelV g x u) (hy : RelV g y u') (hv : V.eq k x y = some b) (d : Nat) :
    (Op.equalIn (d + 1) t u u').run P w = .ok b w := by
  unfold V.eq at hv
  split at hv
  all_goals (try (split at hv <;> (try (cases hv; done))))
  all_goals (try (cases hv; done))
  all_goals (rename_i hkk)
  all_goals (first | (obtain ⟨rfl, hij⟩ := hkk) | subst hkk)
  all_goals (simp only [chkTK] at hk; split at hk <;> (try (cases hk; done)))
  all_goals (rename_i ht)
  · injection hv with hv; subst hv; rw [rel_bool hx, rel_bool hy]; simp [Op.equalIn, run_underlying ht]
  · injection hv with hv; subst hv
    obtain ⟨p, rfl, hp⟩ := rel_ptr hx; obtain ⟨q, rfl, hq⟩ := rel_ptr hy
    cases p <;> simp at hp
    simp [Op.equalIn, run_underlying ht, hq]
  · injection hv with hv; subst hv
    obtain ⟨p, rfl, hp⟩ := rel_ptr hx; obtain ⟨q, rfl, hq⟩ := rel_ptr hy
    cases q <;> simp at hq
    cases p <;> simp at hp
    simp [Op.equalIn, run_underlying ht]
  · injection hv with hv; subst hv
    subst hij
    obtain ⟨_, rfl⟩ := hx
    obtain ⟨_, rfl⟩ := hy
    split at hk <;> (try (cases hk; done))
    rename_i s hs
    have hs0 : s ≠ 0 := of_decide_eq_true hk
    simp [Op.equalIn, run_underlying ht, szOf_run hs, hs0, sameAddr]
    rw [Bool.eq_iff_iff]; simp
  · injection hv with hv; subst hv
    obtain ⟨p, rfl, hp⟩ := rel_ptr hx; obtain ⟨q, rfl⟩ := rel_eptr hy
    cases p <;> simp at hp
    simp [Op.equalIn, run_underlying ht]
  · injection hv with hv; subst hv
    obtain ⟨p, rfl, hp⟩ := rel_ptr hy; obtain ⟨q, rfl⟩ := rel_eptr hx
    cases p <;> simp at hp
    simp [Op.equalIn, run_underlying ht]
  · obtain ⟨p, c, rfl, hp⟩ := rel_sl hx; obtain ⟨q, c', rfl, hq⟩ := rel_sl hy
    split at hv
    · rename_i hs
      injection hv with hv; subst hv; subst hs
      cases p <;> simp at hp
      simp [Op.equalIn, run_underlying ht, hq]
    · rename_i hs
      split at hv
      · rename_i hs'
        injection hv with hv; subst hv; subst hs'
        cases q <;> simp at hq
        cases p with
        | none => exact absurd (by simpa using hp.symm) hs
        | some p => simp [Op.equalIn, run_underlying ht]
      · cases hv
  · injection hv with hv; subst hv
    obtain ⟨p, c, rfl⟩ := rel_msl hx; obtain ⟨q, c', rfl, hq⟩ := rel_sl hy
    subst hij
    cases q <;> simp at hq
    simp [Op.equalIn, run_underlying ht]
  · injection hv with hv; subst hv
    obtain ⟨p, rfl, hp⟩ := rel_map hx; obtain ⟨q, rfl, hq⟩ := rel_map hy
    cases p <;> simp at hp
    simp [Op.equalIn, run_underlying ht, hq]
  · injection hv with hv; subst hv
    obtain ⟨p, rfl, hp⟩ := rel_map hx; obtain ⟨q, rfl, hq⟩ := rel_map hy
    cases q <;> simp at hq
    cases p <;> simp at hp
    simp [Op.equalIn, run_underlying ht]
  · injection hv with hv; subst hv
    obtain rfl : u = .nilFunc := hx; obtain rfl : u' = .nilFunc := hy
    simp [Op.equalIn, run_underlying ht]
  · injection hv with hv; subst hv
    obtain rfl : u = .nilFunc := hx; obtain ⟨_, _, _, rfl⟩ := rel_func hy
    simp [Op.equalIn, run_underlying ht]
  · injection hv with hv; subst hv
    obtain rfl : u' = .nilFunc := hy; obtain ⟨_, _, _, rfl⟩ := rel_func hx
    simp [Op.equalIn, run_underlying ht]
  · injection hv with hv; subst hv
    obtain rfl : u = .nilIface := hx; obtain ⟨_, rfl, _⟩ := rel_iface hy
    simp [Op.equalIn, run_underlying ht]
  · injection hv with hv; subst hv
    obtain rfl : u' = .nilIface := hy; obtain ⟨_, rfl, _⟩ := rel_iface hx
    simp [Op.equalIn, run_underlying ht]
end
end Go.VM
