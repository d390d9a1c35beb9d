/-
  Closed facts of the program; what arguments are.
-/
import Derived.Test.YtegaflmefmlpgaaGreatDoorVmTop
import Derived.Test.YtegaflmefmlpgaaGreatDoorVmStr
import Derived.Test.YtegaflmefmlpgaaGreatDoorRows
set_option linter.unusedVariables false
set_option linter.unusedSimpArgs false
namespace Go.Proofs.YtegaflmefmlpgaaGreatDoor
open Go.VM Go.ChangeShapes Go.WideShapes Go.ChangeAt Go.RowKit

theorem Tryz.own : ownKnob Tryz.prog.godebug = none := by kernel_rfl
theorem Tryz.laidOut : laidOutB Tryz.prog = true := by kernel_rfl
theorem str_arg {v : V} (h : ArgTy .str v) : ∃ l : List UInt8, v = .str (mkS l) ∧ l.length ≤ 1000000000000000 := by
  obtain ⟨s, e, hs⟩ : ∃ s, [v] = [.str s] ∧ s.size ≤ reachBytes := h
  injection e with e _
  obtain ⟨l, rfl⟩ := mkS_of s
  exact ⟨l, e, Nat.le_trans hs (by decide)⟩
theorem int_arg {k : IntKind} {v : V} (h : ArgTy (.int k) v) : ∃ n : Int, v = .int k n ∧ k.min ≤ n ∧ n ≤ k.max := by
  obtain ⟨n, e, hn⟩ : ∃ n, [v] = [.int k n] ∧ k.min ≤ n ∧ n ≤ k.max := h
  injection e with e _
  exact ⟨n, e, hn⟩
theorem bytes_arg {v : V} (h : ArgTy (.slice 1 1 (.int .u8)) v) : ∃ bs, IsBytes v bs ∧ bs.length ≤ 1000000000000000 := by
  obtain ⟨bs, h1, h2⟩ := bytes_ty h
  exact ⟨bs, h1, Nat.le_trans h2 (by decide)⟩
/-- A slice of whole numbers. -/
theorem ints_ty {k : IntKind} {b : Nat} {v : V} (hb : 1 ≤ b) (h : HasTy (.slice 1 b (.int k)) [v]) : ∃ (l : List Int) (t : Tok), v = .sl (l.map (V.int k)) l.length 1 t ∧ (t = .nil → l = []) ∧ l.length ≤ 1000000000000000 ∧ ∀ n ∈ l, k.min ≤ n ∧ n ≤ k.max := by
  obtain ⟨L, t, e, ht, hl, hL⟩ := h
  injection e with e _
  subst e
  have key : ∀ L : List (List V), (∀ c ∈ L, c.length = 1 ∧ HasTy (.int k) c) → ∃ l : List Int, L.flatten = l.map (V.int k) ∧ l.length = L.length ∧ ∀ n ∈ l, k.min ≤ n ∧ n ≤ k.max := by
    intro L
    induction L with
    | nil => intro _; exact ⟨[], rfl, rfl, fun _ h => by cases h⟩
    | cons c L ih =>
      intro h
      obtain ⟨l, h1, h2, h3⟩ := ih fun c hc => h c (by simp [hc])
      obtain ⟨_, n, rfl, h4⟩ := h c (by simp)
      refine ⟨n :: l, by simp [h1], by simp [h2], fun m hm => ?_⟩
      rcases List.mem_cons.1 hm with rfl | hm
      · exact h4
      · exact h3 m hm
  obtain ⟨l, h1, h2, h3⟩ := key L hL
  have hr : reachBytes ≤ 1000000000000000 := by decide
  have : L.length * 1 ≤ L.length * b := Nat.mul_le_mul_left _ hb
  refine ⟨l, t, by rw [h1, h2], fun e => ?_, by omega, h3⟩
  subst e
  rcases ht with ⟨_, rfl⟩ | ht
  · exact List.eq_nil_of_length_eq_zero (by simpa using h2)
  · cases ht
theorem trodAll_five {H : Type} {enc : TypeId × Value → H} {P : Program} {w : World} {base : Nat} {sp : Nat → Bool} {held : Bool} {t0 t1 t2 t3 t4 : TypeId} {args : Array Value} {ds : List (DataW H)} {ps : List MemPlace} (h : DataW.TrodAll enc P w base sp held [t0, t1, t2, t3, t4] args.toList ds ps) :
    ∃ v0 v1 v2 v3 v4 d0 d1 d2 d3 d4 p0 p1 p2 p3 p4, args = #[v0, v1, v2, v3, v4] ∧ ds = [d0, d1, d2, d3, d4] ∧ ps = p0 ++ p1 ++ p2 ++ p3 ++ p4 ∧ DataW.Trod enc P w base sp held t0 v0 d0 p0 ∧ DataW.Trod enc P w base sp held t1 v1 d1 p1 ∧ DataW.Trod enc P w base sp held t2 v2 d2 p2 ∧ DataW.Trod enc P w base sp held t3 v3 d3 p3 ∧ DataW.Trod enc P w base sp held t4 v4 d4 p4 := by
  obtain ⟨v0, vs, d0, ds', p0, q, hargs, rfl, rfl, h0, hr⟩ := trodAll_cons h
  obtain ⟨v1, vs1, d1, ds1, p1, q1, rfl, rfl, rfl, h1, hr1⟩ := trodAll_cons hr
  obtain ⟨v2, vs2, d2, ds2, p2, q2, rfl, rfl, rfl, h2, hr2⟩ := trodAll_cons hr1
  obtain ⟨v3, vs3, d3, ds3, p3, q3, rfl, rfl, rfl, h3, hr3⟩ := trodAll_cons hr2
  obtain ⟨v4, vs4, d4, ds4, p4, q4, rfl, rfl, rfl, h4, hr4⟩ := trodAll_cons hr3
  obtain ⟨rfl, rfl, rfl⟩ := trodAll_nil hr4
  exact ⟨v0, v1, v2, v3, v4, d0, d1, d2, d3, d4, p0, p1, p2, p3, p4, by cases args; simp_all, rfl, by simp, h0, h1, h2, h3, h4⟩
end Go.Proofs.YtegaflmefmlpgaaGreatDoor
