/-
  The value machine: every operation that changes nothing, whichever.
-/
import Derived.Test.YtddjanglghgoeaaVmSimG
set_option linter.unusedVariables false
set_option linter.unusedSimpArgs false
namespace Go.VM
open Go Go.RowKit

section
variable {P : Program} {w0 w : World} {g : G} {S : St} {n : Nat} {fr : Fr} {a : Act}

theorem part_rel {cs : List V} {us : List Value} (hr : RelL g cs us) (ho : Ones us) {t : TypeId} {agg : Bool} {sz off : Nat} (ha : aggOf P t = some agg) (hs : szOf P t = some sz) {v : V} (hv : takeC agg sz (cs.drop off) = some v) :
    ∃ u, (part t us.toArray off).run P w = .ok u w ∧ RelV g v u := by
  unfold takeC at hv
  cases agg with
  | true =>
    simp only [if_true] at hv
    split at hv
    · rename_i hle
      injection hv with hv; subst hv
      refine ⟨.agg ((us.drop off).take sz).toArray, ?_, _, rfl, (hr.drop off).take sz, (ho.drop off).take sz⟩
      simp only [part, Sem.run_bind, aggOf_run ha, Result.andThen_ok, if_true, szOf_run hs, Sem.run_pure]
      congr 2
      apply Array.toList_inj.1
      simp [List.extract_eq_take_drop]
    · cases hv
  | false =>
    simp only [Bool.false_eq_true, if_false] at hv
    have hc0 : cs[off]? = some v := by
      rw [List.head?_eq_getElem?, List.getElem?_drop] at hv
      simpa using hv
    obtain ⟨u, hu, hrel⟩ := hr.at_ hc0
    exact ⟨u, by simp [part, aggOf_run ha, hu], hrel⟩

theorem chkO_rel {g : G} {n : Nat} {fr : Fr} {a : Act} (k : RelF g n fr a.tmps) {x : Option Operand} {y : Option Arg} (h : chkO n x y = true) :
    (x = none ∧ y = none) ∨ ∃ x' y', x = some x' ∧ y = some y' ∧ RelV g (y'.ev fr) (a.eval x') := by
  unfold chkO at h
  split at h
  · exact .inl ⟨rfl, rfl⟩
  · exact .inr ⟨_, _, rfl, rfl, chkA_rel k h⟩
  · cases h

theorem sliceBound_run {u : Value} {k : IntKind} {j y : Nat} (hu : u = .int k (j : Int)) (hj : j ≤ y) (code : BoundsCode) : (Instr.sliceBound u y code).run P w = .ok j w := by
  subst hu
  simp only [Instr.sliceBound, asIntOf, Sem.run_bind, Sem.run_pure, Result.andThen_ok]
  rw [if_pos ⟨by omega, by omega⟩]
  simp

/-- The bounds of a slice expression: what is cut out; the capacity behind it. -/
theorem bounds_rel (hF : RelF g n fr a.tmps) {lo hi : Option Operand} {lo' hi' : Option Arg} (h1 : chkO n lo lo' = true) (h2 : chkO n hi hi' = true) {len cap : Nat} (hlc : len ≤ cap) {q : Nat × Nat} (hq : bounds fr len lo' hi' = some q) (isSlice : Bool) :
    q.1 ≤ q.2 ∧ q.2 ≤ len ∧ (Instr.sliceBounds isSlice len cap (lo.map a.eval) (hi.map a.eval) none).run P w = .ok (q.1, q.2, cap) w := by
  unfold bounds at hq
  rcases chkO_rel hF h1 with ⟨rfl, rfl⟩ | ⟨l, l', rfl, rfl, hl⟩ <;> rcases chkO_rel hF h2 with ⟨rfl, rfl⟩ | ⟨h, h', rfl, rfl, hh⟩
  · simp only [bind, Option.bind, pure] at hq
    split at hq
    · rename_i hb
      injection hq with hq; subst hq
      exact ⟨hb.1, hb.2, by simp [Instr.sliceBounds]⟩
    · cases hq
  · simp only [bind, Option.bind, pure] at hq
    split at hq
    · cases hq
    · rename_i j hj
      dsimp only at hq
      split at hq
      · rename_i hb
        injection hq with hq; subst hq
        obtain ⟨k, hu⟩ := idx_rel hh hj
        exact ⟨hb.1, hb.2, by simp [Instr.sliceBounds, sliceBound_run (P := P) (w := w) hu (Nat.le_trans hb.2 hlc)]⟩
      · cases hq
  · simp only [bind, Option.bind, pure] at hq
    split at hq
    · cases hq
    · rename_i j hj
      dsimp only at hq
      split at hq
      · rename_i hb
        injection hq with hq; subst hq
        obtain ⟨k, hu⟩ := idx_rel hl hj
        exact ⟨hb.1, hb.2, by simp [Instr.sliceBounds, sliceBound_run (P := P) (w := w) hu hb.1]⟩
      · cases hq
  · simp only [bind, Option.bind, pure] at hq
    split at hq
    · cases hq
    · rename_i j hj
      dsimp only at hq
      split at hq
      · cases hq
      · rename_i i hi
        dsimp only at hq
        split at hq
        · rename_i hb
          injection hq with hq; subst hq
          obtain ⟨k, hu⟩ := idx_rel hh hj
          obtain ⟨k', hu'⟩ := idx_rel hl hi
          exact ⟨hb.1, hb.2, by simp [Instr.sliceBounds, sliceBound_run (P := P) (w := w) hu (Nat.le_trans hb.2 hlc), sliceBound_run (P := P) (w := w) hu' hb.1]⟩
        · cases hq

theorem bounds3_rel (hF : RelF g n fr a.tmps) {lo hi : Option Operand} {lo' hi' : Option Arg} {mx : Operand} {mx' : Arg} (h1 : chkO n lo lo' = true) (h2 : chkO n hi hi' = true) (h3 : chkA n mx mx' = true) (hsome : hi.isSome = true)
    {len cap : Nat} (hlc : len ≤ cap) {q : Nat × Nat} (hq : bounds fr len lo' hi' = some q) (hm : (mx'.ev fr).idx = some q.2) :
    q.1 ≤ q.2 ∧ q.2 ≤ len ∧ (Instr.sliceBounds true len cap (lo.map a.eval) (hi.map a.eval) (some (a.eval mx))).run P w = .ok (q.1, q.2, q.2) w := by
  unfold bounds at hq
  obtain ⟨km, hum⟩ := idx_rel (chkA_rel hF h3) hm
  rcases chkO_rel hF h2 with ⟨rfl, rfl⟩ | ⟨h, h', rfl, rfl, hh⟩
  · cases hsome
  rcases chkO_rel hF h1 with ⟨rfl, rfl⟩ | ⟨l, l', rfl, rfl, hl⟩
  · simp only [bind, Option.bind, pure] at hq
    split at hq
    · cases hq
    · rename_i j hj
      dsimp only at hq
      split at hq
      · rename_i hb
        injection hq with hq; subst hq
        obtain ⟨k, hu⟩ := idx_rel hh hj
        simp only at hum
        exact ⟨hb.1, hb.2, by simp [Instr.sliceBounds, sliceBound_run (P := P) (w := w) hum (Nat.le_trans hb.2 hlc), sliceBound_run (P := P) (w := w) hu (Nat.le_refl _)]⟩
      · cases hq
  · simp only [bind, Option.bind, pure] at hq
    split at hq
    · cases hq
    · rename_i j hj
      dsimp only at hq
      split at hq
      · cases hq
      · rename_i i hi
        dsimp only at hq
        split at hq
        · rename_i hb
          injection hq with hq; subst hq
          obtain ⟨k, hu⟩ := idx_rel hh hj
          obtain ⟨k', hu'⟩ := idx_rel hl hi
          simp only at hum
          exact ⟨hb.1, hb.2, by simp [Instr.sliceBounds, sliceBound_run (P := P) (w := w) hum (Nat.le_trans hb.2 hlc), sliceBound_run (P := P) (w := w) hu (Nat.le_refl _), sliceBound_run (P := P) (w := w) hu' hb.1]⟩
        · cases hq

theorem simSlice (hW : RelW w0 g S w) (hF : RelF g n fr a.tmps) {t e : TypeId} {sz : Nat} (ht : P.underlying t = some (.slice e)) (hs : szOf P e = some sz) {x : Operand} {x' : Arg} (hx : chkA n x x' = true)
    {lo hi mx : Option Operand} {lo' hi' mx' : Option Arg} (h1 : chkO n lo lo' = true) (h2 : chkO n hi hi' = true) (h3 : chkO n mx mx' = true) (hsome : (mx.isNone || hi.isSome) = true)
    {v : V} (hv : sliceV fr sz lo' hi' mx' (x'.ev fr) = some v) : ∃ r, (Instr.sliceAt t (a.eval x) (lo.map a.eval) (hi.map a.eval) (mx.map a.eval)).run P w = .ok r w ∧ RelV g v r := by
  have hrel := chkA_rel hF hx
  have hat : ∀ u, (Instr.sliceAt t u (lo.map a.eval) (hi.map a.eval) (mx.map a.eval)).run P w = (Instr.slice t u (lo.map a.eval) (hi.map a.eval) (mx.map a.eval)).run P w := fun u => by
    simp [Instr.sliceAt, run_underlying ht]
  rw [hat]
  unfold sliceV at hv
  split at hv
  · rename_i cs m sz' tk heq
    rw [heq] at hrel
    obtain ⟨q, hq, hv⟩ := Option.bind_eq_some_iff.1 hv
    split at hv
    · rename_i htk
      split at hv
      · cases hv
      · rename_i hmx
        injection hv with hv; subst hv
        obtain ⟨_, hrel⟩ := hrel
        rcases hrel with ⟨_, rfl, rfl, hu⟩ | ⟨h', _⟩ | ⟨h', _⟩
        · rw [hu]
          rcases chkO_rel hF h3 with ⟨rfl, rfl⟩ | ⟨_, _, rfl, rfl, _⟩
          · obtain ⟨b1, b2, hb⟩ := bounds_rel (P := P) (w := w) hF h1 h2 (Nat.le_refl 0) hq true
            have e2 : q.2 = 0 := by omega
            have e1 : q.1 = 0 := by omega
            rw [e1, e2] at hb
            refine ⟨.slice none 0 0, ?_, by simp, .inl ⟨htk, rfl, rfl, rfl⟩⟩
            simp [Instr.slice, run_underlying ht, hb, szOf_run hs]
          · simp at hmx
        · exact absurd htk h'
        · rcases h' with h' | h' <;> (rw [h'] at htk; cases htk)
    · rename_i htk
      split at hv
      · cases hv
      rename_i hsz
      have hsz : sz' = sz := by simpa using hsz
      subst hsz
      obtain ⟨hlen, hrel⟩ := hrel
      rcases hrel with ⟨h', _⟩ | ⟨_, b, p, cap, us, hu, hc, r, on, ic, hcap, htok⟩ | ⟨hnc, rfl, rfl, x, hu⟩
      · exact absurd h' htk
      rotate_left
      · rw [hu]
        simp only at hv
        rcases chkO_rel hF h3 with ⟨rfl, rfl⟩ | ⟨m1, m2, rfl, rfl, _⟩
        · simp only at hv
          injection hv with hv; subst hv
          obtain ⟨b1, b2, hb⟩ := bounds_rel (P := P) (w := w) hF h1 h2 (Nat.le_refl 0) hq true
          have e2 : q.2 = 0 := by omega
          have e1 : q.1 = 0 := by omega
          rw [e1, e2] at hb
          refine ⟨.slice (some x) 0 0, ?_, by simp [e1, e2], .inr (.inr ⟨?_, by omega, by simp, x, rfl⟩)⟩
          · simp [Instr.slice, run_underlying ht, hb, szOf_run hs]
          · rw [if_pos e2]; exact hnc
        · simp only at hv
          split at hv
          · rename_i hmq
            injection hv with hv; subst hv
            obtain ⟨b1, b2, hb⟩ := bounds3_rel (P := P) (w := w) hF h1 h2 (by simpa [chkO] using h3) (by simpa using hsome) (Nat.le_refl 0) hq hmq
            have e2 : q.2 = 0 := by omega
            have e1 : q.1 = 0 := by omega
            rw [e1, e2] at hb
            refine ⟨.slice (some x) 0 0, ?_, by simp [e1, e2], .inr (.inr ⟨.inr rfl, by omega, by simp, x, rfl⟩)⟩
            simp [Instr.slice, run_underlying ht, hb, szOf_run hs]
          · cases hv
      rw [hu]
      simp only at hv
      rcases chkO_rel hF h3 with ⟨rfl, rfl⟩ | ⟨m1, m2, rfl, rfl, _⟩
      · simp only at hv
        injection hv with hv; subst hv
        obtain ⟨b1, b2, hb⟩ := bounds_rel (P := P) (w := w) hF h1 h2 hc hq true
        have hcutlen : ((cs.drop (q.1 * sz')).take ((q.2 - q.1) * sz')).length = (q.2 - q.1) * sz' := by
          rw [List.length_take, List.length_drop, hlen, ← Nat.sub_mul]
          exact Nat.min_eq_left (Nat.mul_le_mul_right _ (by omega))
        have hrun : (Instr.slice t (.slice (some ⟨b, p, none⟩) m cap) (lo.map a.eval) (hi.map a.eval) none).run P w = .ok (.slice (some (if cap = q.1 then ⟨b, p, none⟩ else ⟨b, p + q.1 * sz', none⟩)) (q.2 - q.1) (cap - q.1)) w := by
          simp only [Instr.slice, run_underlying ht, Sem.run_bind, Result.andThen_ok, hb, szOf_run hs, Sem.run_pure, Option.map_some, add_at]
          split <;> rfl
        refine ⟨_, hrun, hcutlen, .inr (.inl ⟨?_, ?_⟩)⟩
        · split
          · exact htk
          · intro hh; cases hh
        by_cases hcq : cap = q.1
        · -- nothing is left
          have e0 : q.2 - q.1 = 0 := by omega
          refine ⟨b, p, cap - q.1, [], by rw [if_pos hcq], by omega, ?_, fun _ hx => (by cases hx), fun j v hj => (by simp at hj), fun _ => (by omega), fun k hk => ?_⟩
          · rw [e0]; simp; rfl
          · have hkt : tk = .at k := by
              split at hk
              · exact hk
              · cases hk
            exact ⟨(htok k hkt).1, (htok k hkt).2.1, fun hh => (by omega)⟩
        · refine ⟨b, p + q.1 * sz', cap - q.1, (us.drop (q.1 * sz')).take ((q.2 - q.1) * sz'), by rw [if_neg hcq], by omega, (r.drop _).take _, (on.drop _).take _, (ic.drop _).take _, fun hk => ?_, fun k hk => ?_⟩
          · split at hk
            · rename_i hqm
              have := hcap hk
              omega
            · cases hk
          · split at hk
            · rename_i hqm
              obtain ⟨k1, k10, k2⟩ := htok k hk
              refine ⟨k1, k10, fun hlt => ?_⟩
              obtain ⟨k3, k4, k5⟩ := k2 (by omega)
              refine ⟨?_, k4, ?_⟩
              · rw [k3]
                rw [hqm, Nat.sub_mul, Nat.add_assoc]
                have := Nat.mul_le_mul_right sz' (show q.1 ≤ m by omega)
                omega
              · rw [Nat.sub_mul]
                have := Nat.mul_le_mul_right sz' (show q.1 ≤ cap by omega)
                omega
            · cases hk
      · simp only at hv
        split at hv
        · rename_i hmq
          injection hv with hv; subst hv
          obtain ⟨b1, b2, hb⟩ := bounds3_rel (P := P) (w := w) hF h1 h2 (by simpa [chkO] using h3) (by simpa using hsome) hc hq hmq
          have hcutlen : ((cs.drop (q.1 * sz')).take ((q.2 - q.1) * sz')).length = (q.2 - q.1) * sz' := by
            rw [List.length_take, List.length_drop, hlen, ← Nat.sub_mul]
            exact Nat.min_eq_left (Nat.mul_le_mul_right _ (by omega))
          have hrun : (Instr.slice t (.slice (some ⟨b, p, none⟩) m cap) (lo.map a.eval) (hi.map a.eval) (some (a.eval m1))).run P w = .ok (.slice (some (if q.2 = q.1 then ⟨b, p, none⟩ else ⟨b, p + q.1 * sz', none⟩)) (q.2 - q.1) (q.2 - q.1)) w := by
            simp only [Instr.slice, run_underlying ht, Sem.run_bind, Result.andThen_ok, hb, szOf_run hs, Sem.run_pure, Option.map_some, add_at]
            split <;> rfl
          refine ⟨_, hrun, hcutlen, .inr (.inl ⟨(by intro hh; cases hh), ?_⟩)⟩
          by_cases hcq : q.2 = q.1
          · refine ⟨b, p, q.2 - q.1, [], by rw [if_pos hcq], by omega, ?_, fun _ hx => (by cases hx), fun j v hj => (by simp at hj), fun _ => (by omega), fun k hk => by cases hk⟩
            rw [hcq]; simp; rfl
          · exact ⟨b, p + q.1 * sz', q.2 - q.1, (us.drop (q.1 * sz')).take ((q.2 - q.1) * sz'), by rw [if_neg hcq], by omega, (r.drop _).take _, (on.drop _).take _, (ic.drop _).take _, fun _ => rfl, fun k hk => by cases hk⟩
        · cases hv
  · rename_i o off m sz' heq
    rw [heq] at hrel
    obtain ⟨q, hq, hv2⟩ := Option.bind_eq_some_iff.1 hv
    clear hv
    split at hv2
    · cases hv2
    rename_i hcond
    have hsz : sz' = sz := Decidable.byContradiction fun h => hcond (.inl h)
    have hmx : mx'.isSome = false := by
      cases h : mx'.isSome with
      | false => rfl
      | true => exact absurd (.inr h) hcond
    subst hsz
    obtain ⟨ho, cap, hu, hc, hb1, hb2⟩ := hrel
    rw [hu]
    rcases chkO_rel hF h3 with ⟨rfl, rfl⟩ | ⟨_, _, rfl, rfl, _⟩
    · obtain ⟨b1, b2, hb⟩ := bounds_rel (P := P) (w := w) hF h1 h2 hc hq true
      have hrun : (Instr.slice t (.slice (some ⟨(g.loc o).1, (g.loc o).2 + off, none⟩) m cap) (lo.map a.eval) (hi.map a.eval) none).run P w =
          .ok (.slice (some (if cap = q.1 then ⟨(g.loc o).1, (g.loc o).2 + off, none⟩ else ⟨(g.loc o).1, (g.loc o).2 + off + q.1 * sz', none⟩)) (q.2 - q.1) (cap - q.1)) w := by
        simp only [Instr.slice, run_underlying ht, Sem.run_bind, Result.andThen_ok, hb, szOf_run hs, Sem.run_pure, Option.map_some, add_at]
        split <;> rfl
      refine ⟨_, hrun, ?_⟩
      by_cases he : q.2 = q.1
      · rw [if_pos he] at hv2
        injection hv2 with hv2; subst hv2
        have e0 : q.2 - q.1 = 0 := by omega
        refine ⟨by simp, .inr (.inl ⟨(by intro hh; cases hh), (g.loc o).1, (if cap = q.1 then (g.loc o).2 + off else (g.loc o).2 + off + q.1 * sz'), cap - q.1, [], ?_, Nat.zero_le _, rfl, fun _ hx => (by cases hx), fun j v hj => (by simp at hj), fun hh => (by cases hh), fun k hk => (by cases hk)⟩)⟩
        rw [e0]; split <;> rfl
      · rw [if_neg he] at hv2
        injection hv2 with hv2; subst hv2
        rw [if_neg (by omega)]
        refine ⟨ho, cap - q.1, by rw [Nat.add_assoc], by omega, hb1, ?_⟩
        rw [Nat.sub_mul]
        have := Nat.mul_le_mul_right sz' (show q.1 ≤ cap by omega)
        omega
    · simp at hmx
  · cases hv
end
end Go.VM
