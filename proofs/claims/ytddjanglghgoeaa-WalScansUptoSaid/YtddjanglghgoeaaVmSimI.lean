/-
  The value machine: literals and maps that are read; then every operation that changes nothing.
-/
import Derived.Test.YtddjanglghgoeaaVmSimH
set_option linter.unusedVariables false
set_option linter.unusedSimpArgs false
namespace Go.VM
open Go Go.RowKit

theorem foldl_set_list (off : Nat) : ∀ (xs : List Value) (k : Nat) (cells : Array Value), off + k + xs.length ≤ cells.size →
    ((xs.zipIdx k).foldl (fun cs q => cs.setIfInBounds (off + q.2) q.1) cells).toList = cells.toList.take (off + k) ++ xs ++ cells.toList.drop (off + k + xs.length)
  | [], k, cells, _ => by simp
  | x :: xs, k, cells, h => by
    simp only [List.zipIdx_cons, List.foldl_cons]
    rw [foldl_set_list off xs (k + 1) _ (by simp at h ⊢; omega)]
    simp only [Array.toList_setIfInBounds, List.length_cons]
    have hlt : off + k < cells.toList.length := by simp at h ⊢; omega
    rw [List.drop_set_of_lt (by omega)]
    rw [show off + (k + 1) = off + k + 1 from by omega, List.take_succ_eq_append_getElem (by simpa using hlt), List.take_set_of_le (Nat.le_refl _)]
    simp [List.append_assoc, Nat.add_assoc, Nat.add_comm, Nat.add_left_comm]

theorem foldl_set_array (off : Nat) (xs cells : Array Value) (h : off + xs.size ≤ cells.size) :
    (xs.zipIdx.foldl (fun cs q => cs.setIfInBounds (off + q.2) q.1) cells).toList = cells.toList.take off ++ xs.toList ++ cells.toList.drop (off + xs.size) := by
  rw [← Array.foldl_toList, Array.toList_zipIdx]
  have := foldl_set_list off xs.toList 0 cells (by simpa using h)
  simpa using this

section
variable {P : Program} {w0 w : World} {g : G} {S : St} {n : Nat} {fr : Fr} {a : Act}

theorem splice_rel {cs xs : List V} {us ys : List Value} (h : RelL g cs us) (k : RelL g xs ys) (off : Nat) : RelL g (splice cs off xs) (us.take off ++ ys ++ us.drop (off + ys.length)) := by
  unfold splice
  rw [← k.len]
  exact ((h.take off).append k).append (h.drop _)

theorem fill_rel (hF : RelF g n fr a.tmps) {place : Nat → Option (Nat × Nat)} : ∀ {ps : List (Nat × Operand)} {parts : List (Nat × Nat × Arg)} {zero : List V} {zs : Array Value} {cs : List V},
    chkParts P n place ps parts = true → fillV fr zero parts = some cs → RelL g zero zs.toList → Ones zs.toList →
    ∃ us, Instr.fill place zs (ps.map fun q => (q.1, a.eval q.2)) = some us ∧ RelL g cs us.toList ∧ Ones us.toList
  | [], [], zero, zs, cs, _, hf, hr, ho => by
    simp only [fillV] at hf
    injection hf with hf; subst hf
    exact ⟨zs, rfl, hr, ho⟩
  | (i, x) :: ps, (off, sz, y) :: parts, zero, zs, cs, hc, hf, hr, ho => by
    simp only [chkParts, Bool.and_eq_true, decide_eq_true_eq] at hc
    obtain ⟨⟨hpl, hx⟩, hrest⟩ := hc
    simp only [fillV] at hf
    split at hf
    · rename_i hcond
      obtain ⟨h1, h2, h3⟩ := hcond
      obtain ⟨r, on⟩ := cells_rel (chkA_rel hF hx) h3
      have hsz : (a.eval x).cells.size = sz := by rw [← h1, r.len]; simp
      have hzl : zero.length = zs.size := by rw [hr.len]; simp
      have hset := foldl_set_array off (a.eval x).cells zs (by omega)
      have hr' := splice_rel hr r off
      rw [Array.length_toList, ← hset] at hr'
      obtain ⟨us, e, r2, o2⟩ := fill_rel hF hrest hf hr' (by
        rw [hset]
        exact ((ho.take off).append on).append (ho.drop _))
      refine ⟨us, ?_, r2, o2⟩
      simp only [List.map_cons, Instr.fill, hpl]
      rw [if_neg (by simp; omega)]
      exact e
    · cases hf
  | [], _ :: _, _, _, _, hc, _, _, _ => by cases hc
  | _ :: _, [], _, _, _, hc, _, _, _ => by cases hc

theorem zero_run {t : TypeId} {zs : List V} (h : chkZero P t zs = true) (w : World) : ∃ z, (zeroValue t).run P w = .ok z w ∧ RelL g zs z.cells.toList ∧ Ones z.cells.toList := by
  unfold chkZero at h
  split at h <;> (try (cases h; done))
  rename_i i hi
  split at h <;> (try (cases h; done))
  rename_i z hz
  obtain ⟨a, b⟩ := chkL_rel g h
  exact ⟨z, by simp [zeroValue, typeInfo, hi, hz], a, b⟩
theorem zeroV_run {t : TypeId} {z : V} (h : chkZeroV P t z = true) (w : World) : ∃ u, (zeroValue t).run P w = .ok u w ∧ RelV g z u := by
  unfold chkZeroV at h
  split at h <;> (try (cases h; done))
  rename_i i hi
  split at h <;> (try (cases h; done))
  rename_i u hu
  exact ⟨u, by simp [zeroValue, typeInfo, hi, hu], chkV_rel g h⟩

theorem mapM_places {fields : List Field} (h : fields.all (fun f => (szOf P f.type).isSome) = true) (w : World) :
    (fields.mapM (m := Sem) fun f => do pure (f.offset, ← Go.sizeOf f.type)).run P w = .ok (fields.map fun f => (f.offset, (szOf P f.type).getD 0)) w := by
  induction fields with
  | nil => rfl
  | cons f r ih =>
    simp only [List.all_cons, Bool.and_eq_true] at h
    obtain ⟨s, hs⟩ := Option.isSome_iff_exists.1 h.1
    rw [List.mapM_cons]
    simp only [Sem.run_bind, szOf_run hs, Result.andThen_ok, Sem.run_pure, ih h.2, List.map_cons, hs, Option.getD_some]

theorem keyEq_rel {kk : KK} {t : TypeId} (hk : keyKind P t kk = true) {x y : V} {u u' : Value} (hx : RelV g x u) (hy : RelV g y u') {b : Bool} (hb : V.keyEq kk x y = some b) :
    ∃ d, P.underlying t = some d ∧ Instr.sameNow d u u' = some b := by
  unfold V.keyEq at hb
  unfold keyKind at hk
  split at hb
  · split at hb
    · rename_i h
      obtain ⟨rfl, rfl⟩ := h
      injection hb with hb; subst hb
      split at hk <;> (try (cases hk; done))
      rename_i h
      exact ⟨_, h, by rw [rel_int hx, rel_int hy]; simp [Instr.sameNow]⟩
    · cases hb
  · split at hb
    · rename_i h
      subst h
      injection hb with hb; subst hb
      split at hk <;> (try (cases hk; done))
      rename_i h
      exact ⟨_, h, by rw [rel_str hx, rel_str hy]; simp [Instr.sameNow]⟩
    · cases hb
  · split at hb
    · rename_i h
      subst h
      injection hb with hb; subst hb
      split at hk <;> (try (cases hk; done))
      rename_i h
      exact ⟨_, h, by rw [rel_bool hx, rel_bool hy]; simp [Instr.sameNow]⟩
    · cases hb
  · cases hb

theorem findE_rel {kk : KK} {t : TypeId} {d : TypeDesc} (hk : keyKind P t kk = true) (hd : P.underlying t = some d) {x : V} {u : Value} (hx : RelV g x u) : ∀ {es : List (V × V × Nat)} {ms : List MapEntry} {i : Nat} {r : Option (Nat × V)},
    RelM g es ms → findE kk x es i = some r → ∃ r', Instr.findNow d u ms i = some r' ∧
      (match r, r' with
       | none, none => True
       | some (j, v), some (j', v') => j = j' ∧ i ≤ j ∧ j < i + es.length ∧ RelV g v v' ∧ (∃ e m, es[j - i]? = some e ∧ ms[j - i]? = some m ∧ v = e.2.1 ∧ V.keyEq kk x e.1 = some true)
       | _, _ => False)
  | [], ms, i, r, hm, hf => by
    have : ms = [] := List.eq_nil_of_length_eq_zero hm.1.symm
    subst this
    simp only [findE] at hf
    injection hf with hf; subst hf
    exact ⟨none, rfl, trivial⟩
  | e :: es, ms, i, r, hm, hf => by
    match ms, hm.1 with
    | m :: ms, hl =>
      obtain ⟨h1, h2, h3, h4, h5⟩ := hm.2 0 e m (by simp) (by simp)
      have hm' : RelM g es ms := ⟨by simpa using hl, fun j e' m' he' hm'' => hm.2 (j + 1) e' m' (by simpa using he') (by simpa using hm'')⟩
      simp only [findE] at hf
      split at hf
      · rename_i hke
        injection hf with hf; subst hf
        obtain ⟨d', hd', hs⟩ := keyEq_rel hk hx h1 hke
        obtain rfl : d = d' := Option.some.inj (hd.symm.trans hd')
        refine ⟨some (i, m.val), by simp [Instr.findNow, hs], rfl, Nat.le_refl _, by simp, h2, e, m, by simp, by simp, rfl, hke⟩
      · rename_i hke
        obtain ⟨d', hd', hs⟩ := keyEq_rel hk hx h1 hke
        obtain rfl : d = d' := Option.some.inj (hd.symm.trans hd')
        obtain ⟨r', hr', hrel⟩ := findE_rel hk hd hx hm' hf
        refine ⟨r', by simp [Instr.findNow, hs, hr'], ?_⟩
        match r, r', hrel with
        | none, none, _ => trivial
        | some (j, v), some (j', v'), ⟨a1, a2, a3, a4, e', m', a5, a6, a7, a8⟩ =>
          refine ⟨a1, by omega, by simp; omega, a4, e', m', ?_, ?_, a7, a8⟩
          · rw [show j - i = (j - (i + 1)) + 1 from by omega]; simpa using a5
          · rw [show j - i = (j - (i + 1)) + 1 from by omega]; simpa using a6
      · cases hf

/-- The same entry, or none. -/
def Found (g : G) (kk : KK) (x : V) (es : List (V × V × Nat)) (ms : List MapEntry) : Option (Nat × V) → Option (Nat × Value) → Prop
  | none, none => True
  | some q, some q' => q.1 = q'.1 ∧ q.1 < es.length ∧ RelV g q.2 q'.2 ∧ (∃ e m, es[q.1]? = some e ∧ ms[q.1]? = some m ∧ q.2 = e.2.1 ∧ V.keyEq kk x e.1 = some true)
  | _, _ => False

theorem findKey_rel {kk : KK} {t : TypeId} (hk : keyKind P t kk = true) {x : V} {u : Value} (hx : RelV g x u) {es : List (V × V × Nat)} {ms : List MapEntry} {r : Option (Nat × V)}
    (hm : RelM g es ms) (hf : findE kk x es 0 = some r) (w : World) : ∃ r', (Instr.findKey t u ms).run P w = .ok r' w ∧
      Found g kk x es ms r r' := by
  have hd : ∃ d, P.underlying t = some d := by
    unfold keyKind at hk
    split at hk <;> first | exact ⟨_, by assumption⟩ | cases hk
  obtain ⟨d, hd⟩ := hd
  obtain ⟨r', hr', hrel⟩ := findE_rel hk hd hx hm hf
  refine ⟨r', by simp [Instr.findKey, run_underlying hd, hr'], ?_⟩
  match r, r', hrel with
  | none, none, _ => trivial
  | some (j, v), some (j', v'), ⟨a1, a2, a3, a4, e', m', a5, a6, a7, a8⟩ => exact ⟨a1, by omega, a4, e', m', by simpa using a5, by simpa using a6, a7, a8⟩

theorem checkKey_run {kk : KK} {t : TypeId} (hk : keyKind P t kk = true) (e : Bool) (d : Nat) (u : Value) (w : World) : (Instr.checkKey e (d + 1) t u).run P w = .ok () w := by
  unfold keyKind at hk
  split at hk <;> (try (cases hk; done))
  all_goals (rename_i h; simp only [Instr.checkKey, Sem.run_bind, run_underlying h, Result.andThen_ok]; rfl)

theorem RelW.map (h : RelW w0 g S w) {r : Nat} {es : List (V × V × Nat)} {c : Nat} (hm : S.hp r = some (.map es c)) : ∃ ms, w.heap[(g.loc r).1]? = some (.map ms c) ∧ RelM g es ms.toList := by
  obtain ⟨_, _, o, ho, ms, rfl, hr⟩ := h.hp r _ hm
  exact ⟨ms, ho, hr⟩
theorem run_getMap {w : World} {r : Nat} {ms : Array MapEntry} {c : Nat} (h : w.heap[r]? = some (.map ms c)) : (getObj r).run P w = .ok (.map ms c) w := by simp [getObj, Sem.run, h]

theorem minmax_rel {isMax : Bool} {x y z : V} {u u' : Value} (hx : RelV g x u) (hy : RelV g y u') (hz : minmaxV isMax x y = some z) :
    ∃ r, ((if isMax then Builtin.max2 else Builtin.min2) u u').run P w = .ok r w ∧ RelV g z r := by
  unfold minmaxV at hz
  split at hz <;> (try (cases hz; done))
  split at hz <;> (try (cases hz; done))
  rename_i h; subst h
  injection hz with hz; subst hz
  rw [rel_int hx, rel_int hy]
  cases isMax with
  | true => exact ⟨_, rfl, rfl⟩
  | false => exact ⟨_, rfl, rfl⟩
theorem minmaxL_rel {isMax : Bool} : ∀ {x z : V} {l : List V} {u : Value} {us : List Value}, RelV g x u → RelL g l us → minmaxL isMax x l = some z →
    ∃ r, (us.foldlM (if isMax then Builtin.max2 else Builtin.min2) u).run P w = .ok r w ∧ RelV g z r
  | x, z, [], u, us, hx, hl, hz => by
    obtain rfl : us = [] := hl
    simp only [minmaxL] at hz
    injection hz with hz; subst hz
    exact ⟨u, rfl, hx⟩
  | x, z, y :: l, u, us, hx, hl, hz => by
    obtain ⟨u', r, rfl, hy, hr⟩ := hl
    simp only [minmaxL] at hz
    obtain ⟨z1, h1, h2⟩ := Option.bind_eq_some_iff.1 hz
    obtain ⟨r1, e1, k1⟩ := minmax_rel (P := P) (w := w) hx hy h1
    obtain ⟨r2, e2, k2⟩ := minmaxL_rel k1 hr h2
    exact ⟨r2, by simp only [List.foldlM_cons, Sem.run_bind, e1, Result.andThen_ok, e2], k2⟩
end
end Go.VM
