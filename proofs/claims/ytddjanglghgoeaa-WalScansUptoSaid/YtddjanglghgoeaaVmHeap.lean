/-
  The value machine: memory that is made or written: new blocks, what lies behind a slice's end, objects that are frozen.
-/
import Derived.Test.YtddjanglghgoeaaVmSimJ
set_option linter.unusedVariables false
set_option linter.unusedSimpArgs false
namespace Go.VM
open Go Go.RowKit

theorem setRow_heapAny (w : World) (b : Nat) (cur cs : Array Value) (t : TypeId) (fr : Nat × Nat) (h : w.heap[b]? = some (.cells cur t fr)) : (w.setRow b cs).heap[b]? = some (.cells cs t fr) := by
  have hlt : b < w.heap.size := (Array.getElem?_eq_some_iff.1 h).1
  simp only [World.setRow, Array.getElem?_modify, h, if_true, Option.map_some]

theorem setRow_selfAny (w : World) (b : Nat) (cur : Array Value) (t : TypeId) (fr : Nat × Nat) (h : w.heap[b]? = some (.cells cur t fr)) : w.setRow b cur = w := by
  obtain ⟨hlt, hb⟩ := Array.getElem?_eq_some_iff.1 h
  unfold World.setRow
  congr 1
  apply Array.ext
  · simp
  · intro i h1 h2
    simp only [Array.getElem_modify]
    split
    · rename_i e; subst e; rw [hb]
    · rfl

theorem setCell_setRow (w : World) (b i : Nat) (cur : Array Value) (t : TypeId) (fr : Nat × Nat) (v : Value) (h : w.heap[b]? = some (.cells cur t fr)) :
    w.setCell ⟨b, i, none⟩ v = w.setRow b (cur.setIfInBounds i v) := by
  obtain ⟨hlt, hb⟩ := Array.getElem?_eq_some_iff.1 h
  unfold World.setCell World.setRow
  congr 1
  apply Array.ext
  · simp
  · intro k h1 h2
    simp only [Array.getElem_modify]
    split
    · rename_i e; subst e; rw [hb]; simp
    · rfl
theorem setRow_setRow (w : World) (b : Nat) (x y : Array Value) : (w.setRow b x).setRow b y = w.setRow b y := by
  unfold World.setRow
  congr 1
  apply Array.ext
  · simp
  · intro k h1 h2
    simp only [Array.getElem_modify]
    split
    · rename_i e; subst e
      cases w.heap[b]'(by simpa using h2) <;> rfl
    · rfl

theorem run_storeCells_any {P : Program} (b o : Nat) (t : TypeId) (fr : Nat × Nat) : ∀ (vs : List Value) (i : Nat) (cur : Array Value) (w : World), w.heap[b]? = some (.cells cur t fr) → NoFz fr cur.size →
    o + i + vs.length ≤ cur.size → Ones vs →
    (storeCells ⟨b, o, none⟩ vs i).run P w = .ok () (w.setRow b (cur.toList.take (o + i) ++ vs ++ cur.toList.drop (o + i + vs.length)).toArray)
  | [], i, cur, w, h, hf, hl, h1 => by
    simp only [storeCells, List.append_nil, List.length_nil, Nat.add_zero, List.take_append_drop, Array.toArray_toList]
    rw [setRow_selfAny w b cur t fr h]
    rfl
  | v :: rest, i, cur, w, h, hf, hl, h1 => by
    have hi : o + i < cur.size := by simp at hl; omega
    have hcell : w.cell? ⟨b, o + i, none⟩ = some cur[o + i] := by simp [World.cell?, h, hi]
    have hfro : w.frozen? ⟨b, o + i, none⟩ = false := by
      have := hf.at_ (o + i) hi
      simp only [World.frozen?, h]
      rw [Bool.and_eq_false_iff]
      by_cases ha : fr.1 ≤ o + i
      · right; simp; omega
      · left; simp; omega
    simp only [storeCells, Sem.run_bind]
    rw [add_at, run_store P w _ v _ (h1 v (by simp)), hcell]
    simp only [hfro, Bool.false_eq_true, if_false, Result.andThen_ok]
    rw [setCell_setRow w b (o + i) cur t fr v h]
    have h' := setRow_heapAny w b cur (cur.setIfInBounds (o + i) v) t fr h
    have ih := run_storeCells_any (P := P) b o t fr rest (i + 1) (cur.setIfInBounds (o + i) v) _ h' (by simpa using hf) (by simp at hl ⊢; omega) (fun x hx => h1 x (by simp [hx]))
    rw [ih, setRow_setRow]
    congr 2
    simp only [Array.toList_setIfInBounds, List.length_cons]
    have hlt : o + i < cur.toList.length := by simpa using hi
    rw [List.drop_set_of_lt (by omega), show o + (i + 1) = o + i + 1 from by omega, List.take_succ_eq_append_getElem (by simpa using hlt), List.take_set_of_le (Nat.le_refl _)]
    simp [List.append_assoc, Nat.add_assoc, Nat.add_comm, Nat.add_left_comm]

theorem below_setRow' {B b : Nat} {w0 w : World} (h : Below B w0 w) (hb : B ≤ b) (cs : Array Value) : Below B w0 (w.setRow b cs) :=
  h.trans ⟨rfl, rfl, rfl, by simp [World.setRow], fun k hk => by
    simp only [World.setRow, Array.getElem?_modify]
    rw [if_neg (by omega)]⟩
theorem setRow_far (w : World) (b k : Nat) (cs : Array Value) (h : k ≠ b) : (w.setRow b cs).heap[k]? = w.heap[k]? := by
  simp only [World.setRow, Array.getElem?_modify]
  rw [if_neg (fun e => h e.symm)]

section
variable {P : Program} {w0 w : World} {g : G} {S : St}

/-- A block that no object has is written where nothing is sealed. -/
theorem RelW.write (h : RelW w0 g S w) {b : Nat} (hfree : ∀ i y, S.hp i = some y → (g.loc i).1 ≠ b) {w' : World} (hw : Below w0.heap.size w0 w') (hsz : w'.heap.size = w.heap.size)
    (hold : ∀ k, k < w.heap.size → k ≠ b → w'.heap[k]? = w.heap[k]?) (hice : ∀ i v, g.ice b i = some v → w'.cell? ⟨b, i, none⟩ = some v) : RelW w0 g S w' := by
  refine ⟨hw, by rw [hsz]; exact h.nb, h.n, fun k p u hu => ?_, fun j y hy => ?_, h.sep⟩
  · by_cases hk : k = b
    · subst hk; exact hice p u hu
    · rw [← h.ice k p u hu]
      exact World.cell?_of_block (hold k (h.iceLt hu) hk)
  · obtain ⟨h3, h4, o', h5, h6⟩ := h.hp j y hy
    exact ⟨h3, h4, o', by rw [hold _ (h.lt hy) (hfree j y hy)]; exact h5, h6⟩

/-- A slice that is told: its cells are sealed, and what lies behind them has a token. -/
theorem fin_val (h : RelW w0 g S w) {b q : Nat} {row : Array Value} {ty : TypeId} {fr : Nat × Nat} (hb : w.heap[b]? = some (.cells row ty fr)) (hf : NoFz fr row.size) (hs : row.size = g.bs b) (hb0 : w0.heap.size ≤ b)
    (hfree : ∀ i y, S.hp i = some y → (g.loc i).1 ≠ b) {cs : List V} {us : List Value} (hr : RelL g cs us) (ho : Ones us) (hrow : ∀ (j : Nat) (v : Value), us[j]? = some v → row[q + j]? = some v)
    (hfront : ∀ i, q + us.length ≤ i → g.ice b i = none) {n sz cap : Nat} (hl : cs.length = n * sz) (hn : n ≤ cap) (hcap : q + cap * sz ≤ row.size) :
    ∃ g', g.le g' ∧ RelW w0 g' (S.add .tok) w ∧ RelV g' (.sl cs n sz (.at S.n)) (.slice (some ⟨b, q, none⟩) n cap) := by
  have hlt : b < w.heap.size := (Array.getElem?_eq_some_iff.1 hb).1
  let f : Nat → Option Value := fun i => if q ≤ i ∧ i < q + us.length then row[i]? else g.ice b i
  have hfmono : ∀ i v, g.ice b i = some v → f i = some v := fun i v hv => by
    have := h.ice b i v hv
    rw [cell_of_row w b i row ty fr hb] at this
    simp only [f]
    split
    · exact this
    · exact hv
  have hle1 := le_ices g b f hfmono
  have h1 : RelW w0 (g.ices b f) S w := h.ices hfree hfmono h.below rfl (fun _ _ _ => rfl) (fun i v hv => by
    rw [cell_of_row w b i row ty fr hb]
    simp only [f] at hv
    split at hv
    · exact hv
    · have := h.ice b i v hv
      rwa [cell_of_row w b i row ty fr hb] at this)
  have hle2 := le_obj (g.ices b f) b (q + us.length)
  have h2 : RelW w0 ((g.ices b f).obj b (q + us.length)) (S.add .tok) w := h1.obj hb hb0 hfree ⟨row, ty, fr, rfl, hf, hs, fun i hi => by
    show (if b = b then f i else _) = none
    rw [if_pos rfl]
    simp only [f]
    rw [if_neg (by omega)]
    exact hfront i hi⟩
  have hle := hle1.trans hle2
  refine ⟨_, hle, h2, hl, .inr (.inl ⟨(by intro hh; cases hh), b, q, cap, us, rfl, hn, RelL_mono hle _ _ hr, ho, fun j v hv => ?_, fun hh => (by cases hh), fun k hk => ?_⟩)⟩
  · show (if b = b then f (q + j) else _) = some v
    rw [if_pos rfl]
    have hj := (List.getElem?_eq_some_iff.1 hv).1
    simp only [f]
    rw [if_pos (by omega)]
    exact hrow j v hv
  · injection hk with hk; subst hk
    have hloc : ((g.ices b f).obj b (q + us.length)).loc S.n = (b, q + us.length) := by
      show (if S.n = g.n then _ else _) = _
      rw [if_pos h.n.symm]
    refine ⟨by show S.n < g.n + 1; rw [h.n]; omega, by rw [hloc], fun _ => ⟨?_, ?_, ?_⟩⟩
    · rw [hloc, ← hr.len, hl]
    · show b < g.nb; rw [h.nb]; exact hlt
    · show q + cap * sz ≤ g.bs b; rw [← hs]; exact hcap

/-- Cells that may be written: they are an object. -/
theorem fin_mut (h : RelW w0 g S w) {b q : Nat} {row : Array Value} {ty : TypeId} {fr : Nat × Nat} (hb : w.heap[b]? = some (.cells row ty fr)) (hf : NoFz fr row.size) (hs : row.size = g.bs b) (hb0 : w0.heap.size ≤ b)
    (hfree : ∀ i y, S.hp i = some y → (g.loc i).1 ≠ b) {cs : List V} {us : List Value} (hr : RelL g cs us) (ho : Ones us) (hrow : ∀ (j : Nat) (v : Value), us[j]? = some v → row[q + j]? = some v)
    (hfront : ∀ i, g.ice b i = none) {n sz cap : Nat} (hn : n ≤ cap) (hcap : q + cap * sz ≤ row.size) :
    ∃ g', g.le g' ∧ RelW w0 g' (S.add (.cells cs)) w ∧ RelV g' (.msl S.n 0 n sz) (.slice (some ⟨b, q, none⟩) n cap) ∧ RelV g' (.ptr (some (S.n, 0))) (.pointer (some ⟨b, q, none⟩)) := by
  have hlt : b < w.heap.size := (Array.getElem?_eq_some_iff.1 hb).1
  have hle := le_obj g b q
  have h2 : RelW w0 (g.obj b q) (S.add (.cells cs)) w := h.obj hb hb0 hfree ⟨row, ty, fr, rfl, hf, hs, hfront, us, RelL_mono hle _ _ hr, ho, hrow⟩
  have hloc : (g.obj b q).loc S.n = (b, q) := by
    show (if S.n = g.n then _ else _) = _
    rw [if_pos h.n.symm]
  have hlt2 : S.n < (g.obj b q).n := by show S.n < g.n + 1; rw [h.n]; omega
  refine ⟨_, hle, h2, ⟨hlt2, cap, by rw [hloc]; rfl, hn, ?_, ?_⟩, hlt2, by rw [hloc]; rfl⟩
  · rw [hloc]; show b < g.nb; rw [h.nb]; exact hlt
  · rw [hloc]; show q + 0 + cap * sz ≤ g.bs b; rw [← hs]; omega

/-- A new block of cells that no object has yet, nothing of it sealed. -/
theorem new_block (h : RelW w0 g S w) (row : Array Value) (ty : TypeId) (fr : Nat × Nat) : ∃ g', g.le g' ∧ RelW w0 g' S (w.alloc (.cells row ty fr)) ∧ (w.alloc (.cells row ty fr)).heap[w.heap.size]? = some (.cells row ty fr) ∧
    row.size = g'.bs w.heap.size ∧ w0.heap.size ≤ w.heap.size ∧ (∀ i y, S.hp i = some y → (g'.loc i).1 ≠ w.heap.size) ∧ (∀ i, g'.ice w.heap.size i = none) := by
  refine ⟨g.block row 0, le_block h row 0, h.block row ty fr 0, heap_alloc_new w _, ?_, h.below.size, fun i y hy => ?_, fun i => ?_⟩
  · simp [G.block, h.nb]
  · have := h.lt hy
    show (g.loc i).1 ≠ _
    omega
  · simp only [G.block, h.nb, if_true]
    rw [if_neg (by omega)]

/-- A new block, all of it sealed: a slice whose capacity is its length. -/
theorem new_cap (h : RelW w0 g S w) {cs : List V} {us : List Value} (hr : RelL g cs us) (ho : Ones us) (ty : TypeId) {n sz : Nat} (hl : cs.length = n * sz) :
    ∃ g', g.le g' ∧ RelW w0 g' S (w.alloc (.cells us.toArray ty)) ∧ RelV g' (.sl cs n sz .cap) (.slice (some ⟨w.heap.size, 0, none⟩) n n) := by
  have hle := le_block h us.toArray us.length
  refine ⟨g.block us.toArray us.length, hle, h.block _ _ _ _, hl, .inr (.inl ⟨(by intro hh; cases hh), w.heap.size, 0, n, us, rfl, Nat.le_refl _, RelL_mono hle _ _ hr, ho, fun j v hv => ?_, fun _ => rfl, fun k hk => (by cases hk)⟩)⟩
  have hj := (List.getElem?_eq_some_iff.1 hv).1
  simp only [G.block, h.nb, if_true, Nat.zero_add]
  rw [if_pos hj]
  simpa using hv
/-- A new block that is an object. -/
theorem new_obj (h : RelW w0 g S w) {cs : List V} {us : List Value} (hr : RelL g cs us) (ho : Ones us) (ty : TypeId) {n sz : Nat} (hl : cs.length = n * sz) :
    ∃ g', g.le g' ∧ RelW w0 g' (S.add (.cells cs)) (w.alloc (.cells us.toArray ty)) ∧ RelV g' (.msl S.n 0 n sz) (.slice (some ⟨w.heap.size, 0, none⟩) n n) ∧ RelV g' (.ptr (some (S.n, 0))) (.pointer (some ⟨w.heap.size, 0, none⟩)) := by
  obtain ⟨g1, l1, h1, e1, s1, b1, f1, i1⟩ := new_block h us.toArray ty (0, 0)
  obtain ⟨g2, l2, h2, r2, r3⟩ := fin_mut (q := 0) (n := n) (sz := sz) (cap := n) h1 e1 (.inl rfl) s1 b1 f1 (RelL_mono l1 _ _ hr) ho (fun j v hv => by simpa using hv) i1 (Nat.le_refl _) (by
    rw [← hl, hr.len]; simp)
  exact ⟨g2, l1.trans l2, h2, r2, r3⟩
end
end Go.VM
