/-
  The value machine: memory that is made or written: new blocks, what lies behind a slice's end, objects that are frozen.
  The value machine: append.
  The value machine: the operations that act, and calls: the check, and that the model does what the value machine says.
-/
import Derived.Test.YtegaflmefmlpgaaGreatDoorVmSimJ
set_option linter.unusedVariables false
set_option linter.unusedSimpArgs false
namespace Go.VM
open Go Go.RowKit

theorem setRow_heapAny (w : World) (b : Nat) (cur cs : Array Value) (t : TypeId) (fr : Nat × Nat) (h : w.heap[b]? = some (.cells cur t fr)) : (w.setRow b cs).heap[b]? = some (.cells cs t fr) := by
  have hlt : b < w.heap.size := (Array.getElem?_eq_some_iff.1 h).1
  simp only [World.setRow, Array.getElem?_modify, h, if_true, Option.map_some]

theorem setRow_selfAny (w : World) (b : Nat) (cur : Array Value) (t : TypeId) (fr : Nat × Nat) (h : w.heap[b]? = some (.cells cur t fr)) : w.setRow b cur = w := by
  obtain ⟨hlt, hb⟩ := Array.getElem?_eq_some_iff.1 h
  unfold World.setRow
  congr 1
  apply Array.ext
  · simp
  · intro i h1 h2
    simp only [Array.getElem_modify]
    split
    · rename_i e; subst e; rw [hb]
    · rfl

theorem setCell_setRow (w : World) (b i : Nat) (cur : Array Value) (t : TypeId) (fr : Nat × Nat) (v : Value) (h : w.heap[b]? = some (.cells cur t fr)) :
    w.setCell ⟨b, i, none⟩ v = w.setRow b (cur.setIfInBounds i v) := by
  obtain ⟨hlt, hb⟩ := Array.getElem?_eq_some_iff.1 h
  unfold World.setCell World.setRow
  congr 1
  apply Array.ext
  · simp
  · intro k h1 h2
    simp only [Array.getElem_modify]
    split
    · rename_i e; subst e; rw [hb]; simp
    · rfl
theorem setRow_setRow (w : World) (b : Nat) (x y : Array Value) : (w.setRow b x).setRow b y = w.setRow b y := by
  unfold World.setRow
  congr 1
  apply Array.ext
  · simp
  · intro k h1 h2
    simp only [Array.getElem_modify]
    split
    · rename_i e; subst e
      cases w.heap[b]'(by simpa using h2) <;> rfl
    · rfl

theorem run_storeCells_any {P : Program} (b o : Nat) (t : TypeId) (fr : Nat × Nat) : ∀ (vs : List Value) (i : Nat) (cur : Array Value) (w : World), w.heap[b]? = some (.cells cur t fr) → NoFz fr cur.size →
    o + i + vs.length ≤ cur.size → Ones vs →
    (storeCells ⟨b, o, none⟩ vs i).run P w = .ok () (w.setRow b (cur.toList.take (o + i) ++ vs ++ cur.toList.drop (o + i + vs.length)).toArray)
  | [], i, cur, w, h, hf, hl, h1 => by
    simp only [storeCells, List.append_nil, List.length_nil, Nat.add_zero, List.take_append_drop, Array.toArray_toList]
    rw [setRow_selfAny w b cur t fr h]
    rfl
  | v :: rest, i, cur, w, h, hf, hl, h1 => by
    have hi : o + i < cur.size := by simp at hl; omega
    have hcell : w.cell? ⟨b, o + i, none⟩ = some cur[o + i] := by simp [World.cell?, h, hi]
    have hfro : w.frozen? ⟨b, o + i, none⟩ = false := by
      have := hf.at_ (o + i) hi
      simp only [World.frozen?, h]
      rw [Bool.and_eq_false_iff]
      by_cases ha : fr.1 ≤ o + i
      · right; simp; omega
      · left; simp; omega
    simp only [storeCells, Sem.run_bind]
    rw [add_at, run_store P w _ v _ (h1 v (by simp)), hcell]
    simp only [hfro, Bool.false_eq_true, if_false, Result.andThen_ok]
    rw [setCell_setRow w b (o + i) cur t fr v h]
    have h' := setRow_heapAny w b cur (cur.setIfInBounds (o + i) v) t fr h
    have ih := run_storeCells_any (P := P) b o t fr rest (i + 1) (cur.setIfInBounds (o + i) v) _ h' (by simpa using hf) (by simp at hl ⊢; omega) (fun x hx => h1 x (by simp [hx]))
    rw [ih, setRow_setRow]
    congr 2
    simp only [Array.toList_setIfInBounds, List.length_cons]
    have hlt : o + i < cur.toList.length := by simpa using hi
    rw [List.drop_set_of_lt (by omega), show o + (i + 1) = o + i + 1 from by omega, List.take_succ_eq_append_getElem (by simpa using hlt), List.take_set_of_le (Nat.le_refl _)]
    simp [List.append_assoc, Nat.add_assoc, Nat.add_comm, Nat.add_left_comm]

theorem below_setRow' {B b : Nat} {w0 w : World} (h : Below B w0 w) (hb : B ≤ b) (cs : Array Value) : Below B w0 (w.setRow b cs) :=
  h.trans ⟨rfl, rfl, rfl, by simp [World.setRow], fun k hk => by
    simp only [World.setRow, Array.getElem?_modify]
    rw [if_neg (by omega)]⟩
theorem setRow_far (w : World) (b k : Nat) (cs : Array Value) (h : k ≠ b) : (w.setRow b cs).heap[k]? = w.heap[k]? := by
  simp only [World.setRow, Array.getElem?_modify]
  rw [if_neg (fun e => h e.symm)]

section
variable {P : Program} {w0 w : World} {g : G} {S : St}

/-- A block that no object has is written where nothing is sealed. -/
theorem RelW.write (h : RelW w0 g S w) {b : Nat} (hfree : ∀ i y, S.hp i = some y → (g.loc i).1 ≠ b) {w' : World} (hw : Below w0.heap.size w0 w') (hsz : w'.heap.size = w.heap.size)
    (hold : ∀ k, k < w.heap.size → k ≠ b → w'.heap[k]? = w.heap[k]?) (hice : ∀ i v, g.ice b i = some v → w'.cell? ⟨b, i, none⟩ = some v) : RelW w0 g S w' := by
  refine ⟨hw, by rw [hsz]; exact h.nb, h.n, fun k p u hu => ?_, fun j y hy => ?_, h.sep⟩
  · by_cases hk : k = b
    · subst hk; exact hice p u hu
    · rw [← h.ice k p u hu]
      exact World.cell?_of_block (hold k (h.iceLt hu) hk)
  · obtain ⟨h3, h4, o', h5, h6⟩ := h.hp j y hy
    exact ⟨h3, h4, o', by rw [hold _ (h.lt hy) (hfree j y hy)]; exact h5, h6⟩

/-- A slice that is told: its cells are sealed, and what lies behind them has a token. -/
theorem fin_val (h : RelW w0 g S w) {b q : Nat} {row : Array Value} {ty : TypeId} {fr : Nat × Nat} (hb : w.heap[b]? = some (.cells row ty fr)) (hf : NoFz fr row.size) (hs : row.size = g.bs b) (hb0 : w0.heap.size ≤ b)
    (hfree : ∀ i y, S.hp i = some y → (g.loc i).1 ≠ b) {cs : List V} {us : List Value} (hr : RelL g cs us) (ho : Ones us) (hrow : ∀ (j : Nat) (v : Value), us[j]? = some v → row[q + j]? = some v)
    (hfront : ∀ i, q + us.length ≤ i → g.ice b i = none) {n sz cap : Nat} (hl : cs.length = n * sz) (hn : n ≤ cap) (hcap : q + cap * sz ≤ row.size) :
    ∃ g', g.le g' ∧ RelW w0 g' (S.add .tok) w ∧ RelV g' (.sl cs n sz (.at S.n)) (.slice (some ⟨b, q, none⟩) n cap) := by
  have hlt : b < w.heap.size := (Array.getElem?_eq_some_iff.1 hb).1
  let f : Nat → Option Value := fun i => if q ≤ i ∧ i < q + us.length then row[i]? else g.ice b i
  have hfmono : ∀ i v, g.ice b i = some v → f i = some v := fun i v hv => by
    have := h.ice b i v hv
    rw [cell_of_row w b i row ty fr hb] at this
    simp only [f]
    split
    · exact this
    · exact hv
  have hle1 := le_ices g b f hfmono
  have h1 : RelW w0 (g.ices b f) S w := h.ices hfree hfmono h.below rfl (fun _ _ _ => rfl) (fun i v hv => by
    rw [cell_of_row w b i row ty fr hb]
    simp only [f] at hv
    split at hv
    · exact hv
    · have := h.ice b i v hv
      rwa [cell_of_row w b i row ty fr hb] at this)
  have hle2 := le_obj (g.ices b f) b (q + us.length)
  have h2 : RelW w0 ((g.ices b f).obj b (q + us.length)) (S.add .tok) w := h1.obj hb hb0 hfree ⟨row, ty, fr, rfl, hf, hs, fun i hi => by
    show (if b = b then f i else _) = none
    rw [if_pos rfl]
    simp only [f]
    rw [if_neg (by omega)]
    exact hfront i hi⟩
  have hle := hle1.trans hle2
  refine ⟨_, hle, h2, hl, .inr (.inl ⟨(by intro hh; cases hh), b, q, cap, us, rfl, hn, RelL_mono hle _ _ hr, ho, fun j v hv => ?_, fun hh => (by cases hh), fun k hk => ?_⟩)⟩
  · show (if b = b then f (q + j) else _) = some v
    rw [if_pos rfl]
    have hj := (List.getElem?_eq_some_iff.1 hv).1
    simp only [f]
    rw [if_pos (by omega)]
    exact hrow j v hv
  · injection hk with hk; subst hk
    have hloc : ((g.ices b f).obj b (q + us.length)).loc S.n = (b, q + us.length) := by
      show (if S.n = g.n then _ else _) = _
      rw [if_pos h.n.symm]
    refine ⟨by show S.n < g.n + 1; rw [h.n]; omega, by rw [hloc], fun _ => ⟨?_, ?_, ?_⟩⟩
    · rw [hloc, ← hr.len, hl]
    · show b < g.nb; rw [h.nb]; exact hlt
    · show q + cap * sz ≤ g.bs b; rw [← hs]; exact hcap

/-- Cells that may be written: they are an object. -/
theorem fin_mut (h : RelW w0 g S w) {b q : Nat} {row : Array Value} {ty : TypeId} {fr : Nat × Nat} (hb : w.heap[b]? = some (.cells row ty fr)) (hf : NoFz fr row.size) (hs : row.size = g.bs b) (hb0 : w0.heap.size ≤ b)
    (hfree : ∀ i y, S.hp i = some y → (g.loc i).1 ≠ b) {cs : List V} {us : List Value} (hr : RelL g cs us) (ho : Ones us) (hrow : ∀ (j : Nat) (v : Value), us[j]? = some v → row[q + j]? = some v)
    (hfront : ∀ i, g.ice b i = none) {n sz cap : Nat} (hn : n ≤ cap) (hcap : q + cap * sz ≤ row.size) :
    ∃ g', g.le g' ∧ RelW w0 g' (S.add (.cells cs)) w ∧ RelV g' (.msl S.n 0 n sz) (.slice (some ⟨b, q, none⟩) n cap) ∧ RelV g' (.ptr (some (S.n, 0))) (.pointer (some ⟨b, q, none⟩)) := by
  have hlt : b < w.heap.size := (Array.getElem?_eq_some_iff.1 hb).1
  have hle := le_obj g b q
  have h2 : RelW w0 (g.obj b q) (S.add (.cells cs)) w := h.obj hb hb0 hfree ⟨row, ty, fr, rfl, hf, hs, hfront, us, RelL_mono hle _ _ hr, ho, hrow⟩
  have hloc : (g.obj b q).loc S.n = (b, q) := by
    show (if S.n = g.n then _ else _) = _
    rw [if_pos h.n.symm]
  have hlt2 : S.n < (g.obj b q).n := by show S.n < g.n + 1; rw [h.n]; omega
  refine ⟨_, hle, h2, ⟨hlt2, cap, by rw [hloc]; rfl, hn, ?_, ?_⟩, hlt2, by rw [hloc]; rfl⟩
  · rw [hloc]; show b < g.nb; rw [h.nb]; exact hlt
  · rw [hloc]; show q + 0 + cap * sz ≤ g.bs b; rw [← hs]; omega

/-- A new block of cells that no object has yet, nothing of it sealed. -/
theorem new_block (h : RelW w0 g S w) (row : Array Value) (ty : TypeId) (fr : Nat × Nat) : ∃ g', g.le g' ∧ RelW w0 g' S (w.alloc (.cells row ty fr)) ∧ (w.alloc (.cells row ty fr)).heap[w.heap.size]? = some (.cells row ty fr) ∧
    row.size = g'.bs w.heap.size ∧ w0.heap.size ≤ w.heap.size ∧ (∀ i y, S.hp i = some y → (g'.loc i).1 ≠ w.heap.size) ∧ (∀ i, g'.ice w.heap.size i = none) := by
  refine ⟨g.block row 0, le_block h row 0, h.block row ty fr 0, heap_alloc_new w _, ?_, h.below.size, fun i y hy => ?_, fun i => ?_⟩
  · simp [G.block, h.nb]
  · have := h.lt hy
    show (g.loc i).1 ≠ _
    omega
  · simp only [G.block, h.nb, if_true]
    rw [if_neg (by omega)]

/-- A new block, all of it sealed: a slice whose capacity is its length. -/
theorem new_cap (h : RelW w0 g S w) {cs : List V} {us : List Value} (hr : RelL g cs us) (ho : Ones us) (ty : TypeId) {n sz : Nat} (hl : cs.length = n * sz) :
    ∃ g', g.le g' ∧ RelW w0 g' S (w.alloc (.cells us.toArray ty)) ∧ RelV g' (.sl cs n sz .cap) (.slice (some ⟨w.heap.size, 0, none⟩) n n) := by
  have hle := le_block h us.toArray us.length
  refine ⟨g.block us.toArray us.length, hle, h.block _ _ _ _, hl, .inr (.inl ⟨(by intro hh; cases hh), w.heap.size, 0, n, us, rfl, Nat.le_refl _, RelL_mono hle _ _ hr, ho, fun j v hv => ?_, fun _ => rfl, fun k hk => (by cases hk)⟩)⟩
  have hj := (List.getElem?_eq_some_iff.1 hv).1
  simp only [G.block, h.nb, if_true, Nat.zero_add]
  rw [if_pos hj]
  simpa using hv
/-- A new block that is an object. -/
theorem new_obj (h : RelW w0 g S w) {cs : List V} {us : List Value} (hr : RelL g cs us) (ho : Ones us) (ty : TypeId) {n sz : Nat} (hl : cs.length = n * sz) :
    ∃ g', g.le g' ∧ RelW w0 g' (S.add (.cells cs)) (w.alloc (.cells us.toArray ty)) ∧ RelV g' (.msl S.n 0 n sz) (.slice (some ⟨w.heap.size, 0, none⟩) n n) ∧ RelV g' (.ptr (some (S.n, 0))) (.pointer (some ⟨w.heap.size, 0, none⟩)) := by
  obtain ⟨g1, l1, h1, e1, s1, b1, f1, i1⟩ := new_block h us.toArray ty (0, 0)
  obtain ⟨g2, l2, h2, r2, r3⟩ := fin_mut (q := 0) (n := n) (sz := sz) (cap := n) h1 e1 (.inl rfl) s1 b1 f1 (RelL_mono l1 _ _ hr) ho (fun j v hv => by simpa using hv) i1 (Nat.le_refl _) (by
    rw [← hl, hr.len]; simp)
  exact ⟨g2, l1.trans l2, h2, r2, r3⟩
end
end Go.VM

namespace Go.VM
open Go Go.RowKit

section
variable {P : Program} {w0 w : World} {g : G} {S : St} {n : Nat} {fr : Fr} {a : Act}

/-- What is appended or copied: so many elements, these cells. -/
structure Src (P : Program) (w : World) (sz m : Nat) (u : Value) (ys : List Value) : Prop where
  len : ys.length = m * sz
  lenOf : ∀ w', (Builtin.lenOf u).run P w' = .ok m w'
  cells : ∀ w' : World, w'.heap = w.heap → (Builtin.firstCells sz m u).run P w' = .ok ys.toArray w'

theorem cell_of_heap {w w' : World} (h : w'.heap = w.heap) (x : Addr) : w'.cell? x = w.cell? x := World.cell?_of_block (by rw [h])

theorem firstCells_reads {sz m c : Nat} {q : Option Addr} {us : List Value} (hl : us.length = m * sz) (hq : m = 0 ∨ ∃ b p, q = some ⟨b, p, none⟩ ∧ Reads w b p us) (w' : World) (hw : w'.heap = w.heap) :
    (Builtin.firstCells sz m (.slice q m c)).run P w' = .ok us.toArray w' := by
  rcases hq with rfl | ⟨b, p, rfl, rd⟩
  · have : us = [] := List.eq_nil_of_length_eq_zero (by simpa using hl)
    subst this
    cases q with
    | none => simp [Builtin.firstCells]
    | some q => simp [Builtin.firstCells, loadCells, loadCellsFrom]
  · have := run_loadCells_list (P := P) w' ⟨b, p, none⟩ us (fun j v hj => by rw [add_at, cell_of_heap hw]; exact rd j v hj)
    simp only [Builtin.firstCells]
    rw [← hl]
    exact this

theorem elems_src (hW : RelW w0 g S w) {sz m : Nat} {v : V} {u : Value} {cs : List V} (h : RelV g v u) (he : v.elems S sz = some (m, cs)) : ∃ us, RelL g cs us ∧ Ones us ∧ Src P w sz m u us := by
  obtain ⟨hl, us, r, on, hsh⟩ := elems_rel hW h he
  have hul : us.length = m * sz := by rw [← r.len, hl]
  refine ⟨us, r, on, hul, ?_, ?_⟩
  · rcases hsh with ⟨q, c, rfl, _⟩ | ⟨s, rfl, _, rfl, _⟩
    · intro w'; simp [Builtin.lenOf]
    · intro w'; simp [Builtin.lenOf]
  · intro w' hw
    rcases hsh with ⟨q, c, rfl, hq⟩ | ⟨s, rfl, rfl, rfl, rfl⟩
    · exact firstCells_reads hul hq w' hw
    · simp only [Builtin.firstCells, Sem.run_pure]
      congr 1
      apply Array.toList_inj.1
      have e : s.extract 0 s.size = s := ByteArray.extract_zero_size
      rw [e]
      simp

theorem run_append_room' {t t2 e ty : TypeId} {i : TypeInfo} {d2 : TypeDesc} (ht : P.underlying t = some (.slice e)) (ht2 : P.underlying t2 = some d2) (hni : ∀ k, d2 ≠ .int k) (hi : P.info? e = some i)
    {b p m k c : Nat} {u : Value} {ys : List Value} (hs : Src P w i.size k u ys) (on : Ones ys) {row : Array Value} {ty' : TypeId} {fr : Nat × Nat} (hb : w.heap[b]? = some (.cells row ty' fr)) (hf : NoFz fr row.size)
    (hroom : m + k ≤ c) (hfit : p + m * i.size + ys.length ≤ row.size) :
    (Builtin.append_ #[t, t2] ty #[.slice (some ⟨b, p, none⟩) m c, u]).run P w =
      .ok (.slice (some ⟨b, p, none⟩) (m + k) c) (w.setRow b (row.toList.take (p + m * i.size) ++ ys ++ row.toList.drop (p + m * i.size + ys.length)).toArray) := by
  have hst := run_storeCells_any (P := P) b (p + m * i.size) ty' fr ys 0 row w hb hf (by omega) on
  simp only [Nat.add_zero] at hst
  have hz : (match d2 with | .int _ => true | _ => false) = false := by cases d2 <;> first | rfl | exact absurd rfl (hni _)
  simp [Builtin.append_, run_underlying ht, run_underlying ht2, Go.sizeOf, typeInfo, hi, hz, hs.lenOf, hroom, hs.cells w rfl, add_at, hst]

theorem run_append_none' {t t2 e ty : TypeId} {i : TypeInfo} {d2 : TypeDesc} (ht : P.underlying t = some (.slice e)) (ht2 : P.underlying t2 = some d2) (hni : ∀ k, d2 ≠ .int k) (hi : P.info? e = some i)
    {u : Value} {ys : List Value} (hs : Src P w i.size 0 u ys) : (Builtin.append_ #[t, t2] ty #[.slice none 0 0, u]).run P w = .ok (.slice none 0 0) w := by
  have hz : (match d2 with | .int _ => true | _ => false) = false := by cases d2 <;> first | rfl | exact absurd rfl (hni _)
  simp [Builtin.append_, run_underlying ht, run_underlying ht2, Go.sizeOf, typeInfo, hi, hz, hs.lenOf, hs.cells w rfl]

theorem run_append_grow' {t t2 e ty : TypeId} {i : TypeInfo} {z : Value} {d2 : TypeDesc} (ht : P.underlying t = some (.slice e)) (ht2 : P.underlying t2 = some d2) (hni : ∀ k, d2 ≠ .int k) (hi : P.info? e = some i) (hz : i.zero = some z)
    {q : Option Addr} {m k c : Nat} {us : List Value} (hl : us.length = m * i.size) (hq : m = 0 ∨ ∃ b p, q = some ⟨b, p, none⟩ ∧ Reads w b p us) {u : Value} {ys : List Value} (hs : Src P w i.size k u ys)
    (hgrow : c < m + k) (hby : i.bytes ≠ 0) (hroom : (m + k) * i.bytes ≤ 140737488355328) :
    (Builtin.append_ #[t, t2] ty #[.slice q m c, u]).run P w =
      .ok (.slice (some ⟨w.heap.size, 0, none⟩) (m + k) (grownCap w (m + k) c e)) (w.drew.alloc (.cells (us.toArray ++ ys.toArray ++ Builtin.zeroCells z.cells (grownCap w (m + k) c e - (m + k))) e)) := by
  have hzz : (match d2 with | .int _ => true | _ => false) = false := by cases d2 <;> first | rfl | exact absurd rfl (hni _)
  have hnr : ¬ (m + k ≤ c) := by omega
  have h48 : ¬ (281474976710656 < Builtin.nextslicecap (m + k) c * i.bytes) := by
    have := growslice_fits hgrow hroom
    omega
  have hfo := firstCells_reads (P := P) (w := w) (c := c) hl hq w.drew rfl
  have hfn := hs.cells w.drew rfl
  simp [Builtin.append_, run_underlying ht, run_underlying ht2, Go.sizeOf, typeInfo, zeroValue, hi, hz, hzz, hby, hs.lenOf, hnr, h48, Question.forced, hfo, hfn, newRow, grownCap]
  congr 2
  apply Array.ext'
  simp [List.append_assoc]

theorem size_zeroCells' (z : Array Value) (m : Nat) : (Builtin.zeroCells z m).size = m * z.size := by simp [Builtin.zeroCells]

/-- What grows lies in a new block; what is told of it. -/
theorem sim_grown (h : RelW w0 g S w) {cs xs : List V} {us ys : List Value} (hr : RelL g cs us) (on : Ones us) (hr2 : RelL g xs ys) (on2 : Ones ys) {m k sz : Nat} (hl : us.length = m * sz) (hl2 : ys.length = k * sz)
    (mu : Bool) {z : Array Value} (hz : z.size = sz) (e : TypeId) {c : Nat} (hc : m + k ≤ c) :
    ∃ g', g.le g' ∧ RelW w0 g' (grown S mu (cs ++ xs) (m + k) sz).2 (w.drew.alloc (.cells (us.toArray ++ ys.toArray ++ Builtin.zeroCells z (c - (m + k))) e)) ∧
      RelV g' (grown S mu (cs ++ xs) (m + k) sz).1 (.slice (some ⟨w.heap.size, 0, none⟩) (m + k) c) := by
  obtain ⟨g1, l1, h1, e1, s1, b1, f1, i1⟩ := new_block h.drew (us.toArray ++ ys.toArray ++ Builtin.zeroCells z (c - (m + k))) e (0, 0)
  have hsz : (us.toArray ++ ys.toArray ++ Builtin.zeroCells z (c - (m + k))).size = c * sz := by
    simp only [Array.size_append, List.size_toArray, size_zeroCells', hl, hl2, hz, ← Nat.add_mul]
    congr 1; omega
  have hrow : ∀ (j : Nat) (v : Value), (us ++ ys)[j]? = some v → (us.toArray ++ ys.toArray ++ Builtin.zeroCells z (c - (m + k)))[0 + j]? = some v := fun j v hv => by
    rw [Nat.zero_add]
    have hj := (List.getElem?_eq_some_iff.1 hv).1
    rw [Array.getElem?_append_left (by simpa using hj)]
    simpa using hv
  have hrel := RelL_mono l1 _ _ (hr.append hr2)
  have hlen : (cs ++ xs).length = (m + k) * sz := by rw [List.length_append, hr.len, hr2.len, hl, hl2, Nat.add_mul]
  cases mu with
  | false =>
    obtain ⟨g2, l2, h2, r2⟩ := fin_val (q := 0) (n := m + k) (sz := sz) (cap := c) h1 e1 (.inl rfl) s1 b1 f1 hrel (on.append on2) hrow (fun i _ => i1 i) hlen hc (by rw [hsz]; simp)
    exact ⟨g2, l1.trans l2, h2, r2⟩
  | true =>
    obtain ⟨g2, l2, h2, r2, _⟩ := fin_mut (q := 0) (n := m + k) (sz := sz) (cap := c) h1 e1 (.inl rfl) s1 b1 f1 hrel (on.append on2) hrow i1 hc (by rw [hsz]; simp)
    exact ⟨g2, l1.trans l2, h2, r2⟩

theorem simAppend (hW : RelW w0 g S w) {t t2 e ty : TypeId} {i : TypeInfo} {z : Value} {d2 : TypeDesc} (ht : P.underlying t = some (.slice e)) (ht2 : P.underlying t2 = some d2) (hni : ∀ k, d2 ≠ .int k) (hi : P.info? e = some i)
    (hz : i.zero = some z) (hzs : z.cells.size = i.size) (hby : i.bytes ≠ 0) {s : V} {v u : Value} (hs : RelV g s v) {k : Nat} {xs : List V} {ys : List Value} (hr2 : RelL g xs ys) (on2 : Ones ys) (src : Src P w i.size k u ys)
    {mu : Bool} {r : V} {S' : St} (ha : appendTo S i.size i.bytes mu k xs s = some (r, S')) :
    ∃ v' w' g', (Builtin.append_ #[t, t2] ty #[v, u]).run P w = .ok v' w' ∧ g.le g' ∧ RelW w0 g' S' w' ∧ RelV g' r v' := by
  unfold appendTo at ha
  split at ha
  · rename_i cs m sz' tk
    split at ha
    · cases ha
    rename_i hcond
    have hlx : xs.length = k * i.size := Decidable.byContradiction fun h => hcond (.inr (.inl h))
    have hroom : (m + k) * i.bytes ≤ 140737488355328 := by
      have : roomOk (m + k) i.bytes = true := by
        cases h : roomOk (m + k) i.bytes with
        | true => rfl
        | false => exact absurd (.inr (.inr h)) hcond
      simpa [roomOk] using this
    obtain ⟨hlen, hs⟩ := hs
    rcases hs with ⟨rfl, rfl, rfl, rfl⟩ | ⟨htk, b, p, cap, us, rfl, hc, hr, on, ic, hcap, htok⟩ | ⟨htk, rfl, rfl, x0, rfl⟩
    rotate_right
    · -- a row without places
      have hsz : sz' = i.size := Decidable.byContradiction fun h => hcond (.inl ⟨(by rcases htk with h | h <;> (rw [h]; intro hh; cases hh)), h⟩)
      subst hsz
      have same : ∀ (hk0 : k = 0), (Builtin.append_ #[t, t2] ty #[.slice (some x0) 0 0, u]).run P w = .ok (.slice (some x0) 0 0) w := fun hk0 => by
        subst hk0
        have hy : ys = [] := List.eq_nil_of_length_eq_zero (by simpa using src.len)
        subst hy
        have hzz : (match d2 with | .int _ => true | _ => false) = false := by cases d2 <;> first | rfl | exact absurd rfl (hni _)
        have hst : (storeCells (x0.add (0 * i.size)) []).run P w = .ok () w := rfl
        simp only [Nat.zero_mul] at hst
        simp [Builtin.append_, run_underlying ht, run_underlying ht2, Go.sizeOf, typeInfo, hi, hzz, src.lenOf, src.cells w rfl, hst]
      rcases htk with rfl | rfl
      · simp only at ha
        split at ha
        · rename_i hk
          injection ha with ha; injection ha with e1 e2; subst e1; subst e2
          exact ⟨_, w, g, same hk, G.le.refl g, hW, hlen, .inr (.inr ⟨.inl rfl, rfl, rfl, x0, rfl⟩)⟩
        · cases ha
      · simp only at ha
        split at ha
        · rename_i hk
          injection ha with ha; injection ha with e1 e2; subst e1; subst e2
          exact ⟨_, w, g, same hk, G.le.refl g, hW, hlen, .inr (.inr ⟨.inr rfl, rfl, rfl, x0, rfl⟩)⟩
        · rename_i hk
          injection ha with ha
          obtain ⟨g', l, h, rv⟩ := sim_grown hW (cs := []) (us := []) rfl (fun _ hx => by cases hx) hr2 on2 (m := 0) (k := k) (sz := i.size) (by simp) src.len mu hzs e (grownCap_ge w (0 + k) 0 e)
          refine ⟨_, _, g', run_append_grow' (us := []) ht ht2 hni hi hz (by simp) (.inl rfl) src (by omega) hby hroom, l, ?_, ?_⟩
          · have : S' = (grown S mu ([] ++ xs) (0 + k) i.size).2 := by rw [ha]
            rw [this]; exact h
          · have : r = (grown S mu ([] ++ xs) (0 + k) i.size).1 := by rw [ha]
            rw [this]; exact rv
    · -- nil
      simp only at ha
      split at ha
      · rename_i hk
        subst hk
        injection ha with ha; injection ha with e1 e2; subst e1; subst e2
        exact ⟨_, w, g, run_append_none' ht ht2 hni hi src, G.le.refl g, hW, ⟨by simp, .inl ⟨rfl, rfl, rfl, rfl⟩⟩⟩
      · rename_i hk
        injection ha with ha
        obtain ⟨g', l, h, rv⟩ := sim_grown hW (cs := []) (us := []) rfl (fun _ hx => by cases hx) hr2 on2 (m := 0) (k := k) (sz := i.size) (by simp) src.len mu hzs e (grownCap_ge w (0 + k) 0 e)
        refine ⟨_, _, g', run_append_grow' (us := []) ht ht2 hni hi hz (by simp) (.inl rfl) src (by omega) hby hroom, l, ?_, ?_⟩
        · have : S' = (grown S mu ([] ++ xs) (0 + k) i.size).2 := by rw [ha]
          rw [this]; exact h
        · have : r = (grown S mu ([] ++ xs) (0 + k) i.size).1 := by rw [ha]
          rw [this]; exact rv
    · have hsz : sz' = i.size := Decidable.byContradiction fun h => hcond (.inl ⟨htk, h⟩)
      subst hsz
      have hlu : us.length = m * i.size := by rw [← hr.len, hlen]
      have grow : ∀ S1 : St, RelW w0 g S1 w → cap < m + k → ∀ mu', ∃ v' w' g', (Builtin.append_ #[t, t2] ty #[.slice (some ⟨b, p, none⟩) m cap, u]).run P w = .ok v' w' ∧ g.le g' ∧
          RelW w0 g' (grown S1 mu' (cs ++ xs) (m + k) i.size).2 w' ∧ RelV g' (grown S1 mu' (cs ++ xs) (m + k) i.size).1 v' := fun S1 hW1 hlt mu' => by
        obtain ⟨g', l, h, rv⟩ := sim_grown hW1 hr on hr2 on2 hlu src.len mu' hzs e (grownCap_ge w (m + k) cap e)
        exact ⟨_, _, g', run_append_grow' ht ht2 hni hi hz hlu (.inr ⟨b, p, rfl, hW.reads ic⟩) src hlt hby hroom, l, h, rv⟩
      have same : ∀ (hk0 : k = 0), ∃ w', (Builtin.append_ #[t, t2] ty #[.slice (some ⟨b, p, none⟩) m cap, u]).run P w = .ok (.slice (some ⟨b, p, none⟩) m cap) w := fun hk0 => by
        subst hk0
        have hy : ys = [] := List.eq_nil_of_length_eq_zero (by simpa using src.len)
        subst hy
        have hzz : (match d2 with | .int _ => true | _ => false) = false := by cases d2 <;> first | rfl | exact absurd rfl (hni _)
        refine ⟨w, ?_⟩
        have hst : (storeCells (⟨b, p + m * i.size, none⟩ : Addr) []).run P w = .ok () w := rfl
        simp [Builtin.append_, run_underlying ht, run_underlying ht2, Go.sizeOf, typeInfo, hi, hzz, src.lenOf, hc, src.cells w rfl, add_at, hst]
      split at ha
      · exact absurd rfl htk
      · -- the capacity is the length
        split at ha
        · rename_i hk
          injection ha with ha; injection ha with e1 e2; subst e1; subst e2
          obtain ⟨_, hrun⟩ := same hk
          exact ⟨_, w, g, hrun, G.le.refl g, hW, hlen, .inr (.inl ⟨htk, b, p, cap, us, rfl, hc, hr, on, ic, hcap, htok⟩)⟩
        · rename_i hk
          injection ha with ha
          obtain ⟨v', w', g', e1, l, h, rv⟩ := grow S hW (by have := hcap rfl; omega) mu
          refine ⟨v', w', g', e1, l, ?_, ?_⟩
          · rw [ha] at h; exact h
          · rw [ha] at rv; exact rv
      · -- a token
        rename_i q
        split at ha
        · cases ha
        rename_i hmu
        split at ha <;> (try (cases ha; done))
        rename_i hlive
        injection ha with ha
        obtain ⟨hq1, hq10, hq2⟩ := htok q rfl
        by_cases hfit : m + k ≤ cap
        · obtain ⟨_, hb0, o, ho, row, ty', fr', rfl, hf, hs, hfr⟩ := hW.hp q _ hlive
          have hWk := hW.kill q
          have hfreeq : ∀ j y, (S.kill q).hp j = some y → (g.loc j).1 ≠ (g.loc q).1 := fun j y hy => by
            simp only [St.kill] at hy
            split at hy
            · cases hy
            · rename_i hjq; exact hW.sep j q y _ hy hlive hjq
          by_cases hlt : m < cap
          · obtain ⟨k1, k2, k3⟩ := hq2 hlt
            rw [hq10] at hb0 ho hs hfr hfreeq
            rw [k1] at hfr
            have hcs : (m + k) * i.size ≤ cap * i.size := Nat.mul_le_mul_right _ hfit
            rw [Nat.add_mul] at hcs
            have hin : p + m * i.size + ys.length ≤ row.size := by rw [src.len, hs]; omega
            have hrun := run_append_room' (ty := ty) (p := p) ht ht2 hni hi src on2 ho hf hfit hin
            let row' : Array Value := (row.toList.take (p + m * i.size) ++ ys ++ row.toList.drop (p + m * i.size + ys.length)).toArray
            have hrowsz : row'.size = row.size := by
              simp only [row', List.size_toArray, List.length_append, List.length_take, List.length_drop, Array.length_toList]
              omega
            have ho' : (w.setRow b row').heap[b]? = some (.cells row' ty' fr') := setRow_heapAny w b row row' ty' fr' ho
            have hlow : ∀ j, j < p + m * i.size → row'[j]? = row[j]? := fun j hj => by
              simp only [row', List.getElem?_toArray]
              rw [List.append_assoc, List.getElem?_append_left (by simp; omega), List.getElem?_take_of_lt hj, Array.getElem?_toList]
            have hmid : ∀ j v, ys[j]? = some v → row'[p + m * i.size + j]? = some v := fun j v hv => by
              have hj := (List.getElem?_eq_some_iff.1 hv).1
              simp only [row', List.getElem?_toArray]
              rw [List.getElem?_append_left (by simp; omega), List.getElem?_append_right (by simp; omega)]
              have : p + m * i.size + j - (List.take (p + m * i.size) row.toList).length = j := by simp; omega
              rw [this]
              exact hv
            have hW1 : RelW w0 g (S.kill q) (w.setRow b row') := hWk.write hfreeq (below_setRow' hW.below hb0 _) (by simp [World.setRow]) (fun x hx hne => setRow_far w b x row' hne) (fun j v hv => by
              have hold := hW.ice b j v hv
              rw [cell_of_row w b j row ty' fr' ho] at hold
              have hj : j < p + m * i.size := by
                rcases Nat.lt_or_ge j (p + m * i.size) with h | h
                · exact h
                · rw [hfr j h] at hv; cases hv
              rw [cell_of_row _ b j row' ty' fr' ho', hlow j hj]
              exact hold)
            have hicerow : ∀ j v, us[j]? = some v → row[p + j]? = some v := fun j v hv => by
              have := hW.ice b (p + j) v (ic j v hv)
              rwa [cell_of_row w b _ row ty' fr' ho] at this
            obtain ⟨g', l, h2, rv⟩ := fin_val (q := p) (n := m + k) (sz := i.size) (cap := cap) (cs := cs ++ xs) (us := us ++ ys) hW1 ho' (by rw [hrowsz]; exact hf) (by rw [hrowsz]; exact hs) hb0 hfreeq (hr.append hr2) (on.append on2)
              (fun j v hv => by
                rcases Nat.lt_or_ge j us.length with h | h
                · rw [List.getElem?_append_left h] at hv
                  rw [hlow (p + j) (by rw [← hlu]; omega)]
                  exact hicerow j v hv
                · rw [List.getElem?_append_right h] at hv
                  have := hmid _ v hv
                  rw [hlu] at this
                  rwa [show p + m * i.size + (j - m * i.size) = p + j from by rw [hlu] at h; omega] at this)
              (fun j hj => hfr j (by rw [List.length_append, hlu] at hj; omega)) (by rw [List.length_append, hr.len, hr2.len, hlu, src.len, Nat.add_mul]) hfit (by rw [hrowsz, hs]; exact k3)
            refine ⟨_, _, g', hrun, l, ?_, ?_⟩
            · have : S' = (grown (S.kill q) false (cs ++ xs) (m + k) i.size).2 := by rw [ha]
              rw [this]; exact h2
            · have : r = (grown (S.kill q) false (cs ++ xs) (m + k) i.size).1 := by rw [ha]
              rw [this]; exact rv
          · -- full, and nothing is appended
            have hk0 : k = 0 := by omega
            obtain ⟨_, hrun⟩ := same hk0
            have hmc : m = cap := by omega
            have hxs : xs = [] := List.eq_nil_of_length_eq_zero (by rw [hlx, hk0]; simp)
            have hadd : RelW w0 (g.obj (g.loc q).1 (g.loc q).2) ((S.kill q).add .tok) w := hWk.obj ho hb0 hfreeq ⟨row, ty', fr', rfl, hf, hs, hfr⟩
            have hle := le_obj g (g.loc q).1 (g.loc q).2
            refine ⟨_, w, _, hrun, hle, ?_, ?_⟩
            · have : S' = (grown (S.kill q) false (cs ++ xs) (m + k) i.size).2 := by rw [ha]
              rw [this]; exact hadd
            · have : r = (grown (S.kill q) false (cs ++ xs) (m + k) i.size).1 := by rw [ha]
              rw [this]
              simp only [grown, Bool.false_eq_true, if_false, hxs, List.append_nil, hk0, Nat.add_zero]
              refine ⟨hlen, .inr (.inl ⟨(by intro hh; cases hh), b, p, cap, us, rfl, hc, RelL_mono hle _ _ hr, on, ic.mono hle, fun hh => (by cases hh), fun x hx => ?_⟩)⟩
              injection hx with hx; subst hx
              refine ⟨by show S.n < g.n + 1; rw [hW.n]; omega, ?_, fun hh => (by omega)⟩
              show (if S.n = g.n then _ else _ : Nat × Nat).1 = b
              rw [if_pos hW.n.symm]; exact hq10
        · obtain ⟨v', w', g', e1, l, h, rv⟩ := grow (S.kill q) (hW.kill q) (by omega) false
          refine ⟨v', w', g', e1, l, ?_, ?_⟩
          · rw [ha] at h; exact h
          · rw [ha] at rv; exact rv
      · split at ha
        · rename_i hk
          injection ha with ha; injection ha with e1 e2; subst e1; subst e2
          obtain ⟨_, hrun⟩ := same hk
          exact ⟨_, w, g, hrun, G.le.refl g, hW, hlen, .inr (.inl ⟨htk, b, p, cap, us, rfl, hc, hr, on, ic, hcap, htok⟩)⟩
        · cases ha
  · rename_i o off m sz'
    split at ha
    · cases ha
    rename_i hcond
    have hsz : sz' = i.size := Decidable.byContradiction fun h => hcond (.inl h)
    have hlx : xs.length = k * i.size := Decidable.byContradiction fun h => hcond (.inr (.inl h))
    have hroom : (m + k) * i.bytes ≤ 140737488355328 := by
      have : roomOk (m + k) i.bytes = true := by
        cases h : roomOk (m + k) i.bytes with
        | true => rfl
        | false => exact absurd (.inr (.inr h)) hcond
      simpa [roomOk] using this
    subst hsz
    obtain ⟨cs, hcs, ha⟩ := Option.bind_eq_some_iff.1 ha
    split at ha
    · rename_i hin
      injection ha with ha
      obtain ⟨ho1, cap, rfl, hc, hb1, hb2⟩ := hs
      have hlive : S.hp o = some (.cells cs) := by
        unfold St.cells at hcs
        split at hcs
        · rename_i heq; injection hcs with hcs; subst hcs; exact heq
        · cases hcs
      obtain ⟨_, hb0, ob, ho, row, ty', fr', rfl, hf, hs, hni', zs, hrz, onz, hrow⟩ := hW.hp o _ hlive
      let us := (zs.drop off).take (m * i.size)
      have hr : RelL g ((cs.drop off).take (m * i.size)) us := (hrz.drop off).take _
      have on : Ones us := (onz.drop off).take _
      have hlu : us.length = m * i.size := by
        simp only [us, List.length_take, List.length_drop]
        rw [← hrz.len]; omega
      have hus : ∀ j v, us[j]? = some v → row[(g.loc o).2 + off + j]? = some v := fun j v hv => by
        simp only [us, List.getElem?_take, List.getElem?_drop] at hv
        split at hv
        · have := hrow _ v hv
          rwa [← Nat.add_assoc] at this
        · cases hv
      have hWk := hW.kill o
      have hfree : ∀ j y, (S.kill o).hp j = some y → (g.loc j).1 ≠ (g.loc o).1 := fun j y hy => by
        simp only [St.kill] at hy
        split at hy
        · cases hy
        · rename_i hjq; exact hW.sep j o y _ hy hlive hjq
      have rd : Reads w (g.loc o).1 ((g.loc o).2 + off) us := fun j v hv => by
        rw [cell_of_row w _ _ row ty' fr' ho]
        exact hus j v hv
      by_cases hfit : m + k ≤ cap
      · have hcsz : (m + k) * i.size ≤ cap * i.size := Nat.mul_le_mul_right _ hfit
        rw [Nat.add_mul] at hcsz
        have hin2 : (g.loc o).2 + off + m * i.size + ys.length ≤ row.size := by rw [src.len, hs]; omega
        have hrun := run_append_room' (ty := ty) (p := (g.loc o).2 + off) ht ht2 hni hi src on2 ho hf hfit hin2
        generalize hp : (g.loc o).2 + off = p at *
        generalize hbb : (g.loc o).1 = b at *
        let row' : Array Value := (row.toList.take (p + m * i.size) ++ ys ++ row.toList.drop (p + m * i.size + ys.length)).toArray
        have hrowsz : row'.size = row.size := by
          simp only [row', List.size_toArray, List.length_append, List.length_take, List.length_drop, Array.length_toList]
          omega
        have ho' : (w.setRow b row').heap[b]? = some (.cells row' ty' fr') := setRow_heapAny w b row row' ty' fr' ho
        have hlow : ∀ j, j < p + m * i.size → row'[j]? = row[j]? := fun j hj => by
          simp only [row', List.getElem?_toArray]
          rw [List.append_assoc, List.getElem?_append_left (by simp; omega), List.getElem?_take_of_lt hj, Array.getElem?_toList]
        have hmid : ∀ j v, ys[j]? = some v → row'[p + m * i.size + j]? = some v := fun j v hv => by
          have hj := (List.getElem?_eq_some_iff.1 hv).1
          simp only [row', List.getElem?_toArray]
          rw [List.getElem?_append_left (by simp; omega), List.getElem?_append_right (by simp; omega)]
          have : p + m * i.size + j - (List.take (p + m * i.size) row.toList).length = j := by simp; omega
          rw [this]
          exact hv
        have hW1 : RelW w0 g (S.kill o) (w.setRow b row') := hWk.write hfree (below_setRow' hW.below hb0 _) (by simp [World.setRow]) (fun x hx hne => setRow_far w b x row' hne) (fun j v hv => by rw [hni' j] at hv; cases hv)
        have hrow2 : ∀ (j : Nat) (v : Value), (us ++ ys)[j]? = some v → row'[p + j]? = some v := fun j v hv => by
          rcases Nat.lt_or_ge j us.length with h | h
          · rw [List.getElem?_append_left h] at hv
            rw [hlow (p + j) (by rw [← hlu]; omega)]
            exact hus j v hv
          · rw [List.getElem?_append_right h] at hv
            have := hmid _ v hv
            rw [hlu] at this
            rwa [show p + m * i.size + (j - m * i.size) = p + j from by rw [hlu] at h; omega] at this
        have hb2' : p + cap * i.size ≤ row'.size := by rw [hrowsz, hs]; exact hb2
        cases mu with
        | false =>
          obtain ⟨g', l, h2, rv⟩ := fin_val (q := p) (n := m + k) (sz := i.size) (cap := cap) hW1 ho' (by rw [hrowsz]; exact hf) (by rw [hrowsz]; exact hs) hb0 hfree (hr.append hr2) (on.append on2) hrow2
            (fun j hj => hni' j) (by rw [List.length_append, hr.len, hr2.len, hlu, src.len, Nat.add_mul]) hfit hb2'
          refine ⟨_, _, g', hrun, l, ?_, ?_⟩
          · rw [show S' = (grown (S.kill o) false (List.take (m * i.size) (List.drop off cs) ++ xs) (m + k) i.size).2 from by rw [ha]]; exact h2
          · rw [show r = (grown (S.kill o) false (List.take (m * i.size) (List.drop off cs) ++ xs) (m + k) i.size).1 from by rw [ha]]; exact rv
        | true =>
          obtain ⟨g', l, h2, rv, _⟩ := fin_mut (q := p) (n := m + k) (sz := i.size) (cap := cap) hW1 ho' (by rw [hrowsz]; exact hf) (by rw [hrowsz]; exact hs) hb0 hfree (hr.append hr2) (on.append on2) hrow2 hni' hfit hb2'
          refine ⟨_, _, g', hrun, l, ?_, ?_⟩
          · rw [show S' = (grown (S.kill o) true (List.take (m * i.size) (List.drop off cs) ++ xs) (m + k) i.size).2 from by rw [ha]]; exact h2
          · rw [show r = (grown (S.kill o) true (List.take (m * i.size) (List.drop off cs) ++ xs) (m + k) i.size).1 from by rw [ha]]; exact rv
      · obtain ⟨g', l, h, rv⟩ := sim_grown hWk hr on hr2 on2 hlu src.len mu hzs e (grownCap_ge w (m + k) cap e)
        refine ⟨_, _, g', run_append_grow' ht ht2 hni hi hz hlu (.inr ⟨_, _, rfl, rd⟩) src (by omega) hby hroom, l, ?_, ?_⟩
        · rw [show S' = (grown (S.kill o) mu (List.take (m * i.size) (List.drop off cs) ++ xs) (m + k) i.size).2 from by rw [ha]]; exact h
        · rw [show r = (grown (S.kill o) mu (List.take (m * i.size) (List.drop off cs) ++ xs) (m + k) i.size).1 from by rw [ha]]; exact rv
    · cases ha
  · cases ha
end
end Go.VM

namespace Go.VM
open Go Go.RowKit

def chkRow (P : Program) (e : TypeId) (len sz : Nat) (zero : List V) : Bool := match P.info? e with
  | some i => match i.zero with
    | some z => decide (z.cells.size = sz) && chkL ((Array.range (len * sz)).map fun k => z.cells[k % z.cells.size]!).toList zero
    | none => false
  | none => false

def chkEI (P : Program) (n : Nat) (o : Op) (i : EI) : Bool :=
  match i with
  | .alloc zero => match o with
    | .alloc t => chkZero P t zero
    | _ => false
  | .box x' => match o with
    | .box t x => chkA n x x'
    | _ => false
  | .buildSlice len' sz how zero parts => match o with
    | .buildSlice t len ps => decide (len = len') && decide (len * sz ≤ 16777216) && (match P.underlying t with
      | some (.slice e) => decide (szOf P e = some sz) && chkRow P e len sz zero && chkParts P n (fun i => some (i * sz, sz)) ps.toList parts
      | _ => false)
    | _ => false
  | .store sz a' x' => match o with
    | .store t a x => decide (szOf P t = some sz) && chkA n a a' && chkA n x x'
    | _ => false
  | .append sz bytes mu s' x' => match o with
    | .call { callee := .builtin .append, args := xs, argTypes := ts } => (match xs.toList, ts.toList with
      | [s, x], [t, t2] => chkA n s s' && chkA n x x' && decide (bytes ≠ 0) && (match P.underlying t2 with | some (.int _) => false | some _ => true | none => false) && (match P.underlying t with
        | some (.slice e) => (match P.info? e with
          | some i => decide (i.size = sz) && decide (i.bytes = bytes) && (match i.zero with | some z => decide (z.cells.size = sz) | none => false)
          | none => false)
        | _ => false)
      | _, _ => false)
    | _ => false
  | .copy sz d' s' => match o with
    | .call { callee := .builtin .copy, args := xs, argTypes := ts } => (match xs.toList, ts.toList with
      | [d, s], t :: _ => chkA n d d' && chkA n s s' && (match P.underlying t with | some (.slice e) => decide (szOf P e = some sz) | _ => false)
      | _, _ => false)
    | _ => false
  | .makeSlice sz bytes mu zero l' c' => match o with
    | .makeSlice t l c => chkA n l l' && chkA n c c' && decide (bytes ≠ 0) && decide (sz ≠ 0) && (match P.underlying t with
      | some (.slice e) => (match P.info? e with
        | some i => decide (i.size = sz) && decide (i.bytes = bytes) && (match i.zero with | some z => decide (z.cells.size = sz) && chkL z.cells.toList zero | none => false)
        | none => false)
      | _ => false)
    | _ => false
  | .makeMap => match o with
    | .makeMap _ none => true
    | _ => false
  | .mapSet kk m' k' v' => match o with
    | .mapUpdate t m k v | .insert t m k v => chkA n m m' && chkA n k k' && chkA n v v' && (match P.underlying t with | some (.map kt _) => keyKind P kt kk | _ => false)
    | _ => false
  | .delete kk m' k' => match o with
    | .call { callee := .builtin .delete, args := xs, argTypes := ts } => (match xs.toList, ts.toList with
      | [m, k], t :: _ => chkA n m m' && chkA n k k' && (match P.underlying t with | some (.map kt _) => keyKind P kt kk | _ => false)
      | _, _ => false)
    | _ => false
  | .range x' => match o with
    | .range t x => chkA n x x' && (match P.underlying t with | some (.map ..) => true | _ => false)
    | _ => false
  | .next x' => match o with
    | .next x false => chkA n x x'
    | _ => false
  | .strBytes x' => match o with
    | .convert src dst x => chkA n x x' && (match P.underlying src, P.underlying dst with
      | some .string, some (.slice e) => (match P.underlying e with | some (.int .u8) => decide (szOf P e = some 1) | _ => false)
      | _, _ => false)
    | _ => false
  | .bytesSame x' => match o with
    | .convert src dst x => chkA n x x' && decide (src = dst) && (match P.underlying src with
      | some (.slice e) => (match P.underlying e with | some (.int .u8) => true | _ => false)
      | _ => false)
    | _ => false
  | .frz x' => match o with
    | .move x | .assign x => chkA n x x'
    | _ => false
  | .call f' args' => match o with
    | .call { callee := .value (.func f), args := xs, argTypes := _ } => decide (f = f') && chkAs n xs.toList args'
    | _ => false
  | .callV x' args' => match o with
    | .call { callee := .value x, args := xs, argTypes := _ } => chkA n x x' && chkAs n xs.toList args'
    | _ => false
  | .panic x' => match o with
    | .call { callee := .builtin .panic, args := xs, argTypes := _ } => (match xs.toList with | [x] => chkA n x x' | _ => false)
    | _ => false

/-- How a call ends, on both sides. -/
def RelEnd (g : G) : AEnd → Ending → Prop
  | .ret v, .returned u => RelV g v u
  | .pan v, .panicked c => ∃ u, c = [{ v := u, recovered := false }] ∧ RelV g v u
  | _, _ => False

/-- A function that is entered when it is called. -/
def Enters (P : Program) (f : FuncId) : Prop := ∃ fn, P.funcs[f]? = some fn ∧ fn.body.isNone = false ∧ (fn.name == "runtime.NumGoroutine") = false

/-- What the model does at a call, said of the value machine's values. -/
def RSim (P : Program) (w0 : World) : Cl := fun f args S Q =>
  Enters P f ∧ ∀ g w us, RelW w0 g S w → RelL g args us → Calls P f us.toArray w fun e w' => ∃ g' S' e', g.le g' ∧ RelW w0 g' S' w' ∧ RelEnd g' e' e ∧ Q e' S'

/-- A step has come to its end. -/
def Done (P : Program) (w0 : World) (o : Oper) (a : Act) (g : G) (w : World) (K : V → St → Prop) : Prop :=
  ∃ u w' g' v S', ((execOp a.eval o).run P w = .ok (.value u) w' ∨ ((execOp a.eval o).run P w = .ok .skip w' ∧ u = undef)) ∧ g.le g' ∧ RelW w0 g' S' w' ∧ RelV g' v u ∧ K v S'

theorem run_setAny {P : Program} {w : World} {r : Nat} {o o' : Obj} (h : w.heap[r]? = some o) (hn : ∀ c e f, o ≠ .cells c e f) : (setObj r o').run P w = .ok () { w with heap := w.heap.setIfInBounds r o' } := by
  cases o <;> first | exact absurd rfl (hn _ _ _) | simp [setObj, Sem.run, h]
theorem run_getAny {P : Program} {w : World} {r : Nat} {o : Obj} (h : w.heap[r]? = some o) (hn : ∀ c e f, o ≠ .cells c e f) : (getObj r).run P w = .ok o w := by
  cases o <;> first | exact absurd rfl (hn _ _ _) | simp [getObj, Sem.run, h]

theorem set_heap (w : World) (r : Nat) (o' : Obj) (h : r < w.heap.size) : ({ w with heap := w.heap.setIfInBounds r o' } : World).heap[r]? = some o' := by simp [h]
theorem set_far (w : World) (r k : Nat) (o' : Obj) (h : k ≠ r) : ({ w with heap := w.heap.setIfInBounds r o' } : World).heap[k]? = w.heap[k]? := by
  simp [Array.getElem?_setIfInBounds_ne (Ne.symm h)]
theorem below_set {B r : Nat} {w0 w : World} (h : Below B w0 w) (hb : B ≤ r) (o' : Obj) : Below B w0 { w with heap := w.heap.setIfInBounds r o' } :=
  h.trans ⟨rfl, rfl, rfl, by simp, fun k hk => set_far w r k o' (by omega)⟩

section
variable {P : Program} {w0 w : World} {g : G} {S : St} {n : Nat} {fr : Fr} {a : Act}

/-- A map, an iterator is another one. -/
theorem RelW.setObj (h : RelW w0 g S w) {i : Nat} {x x' : AObj} (hx : S.hp i = some x) {o o' : Obj} (ho : w.heap[(g.loc i).1]? = some o) (hn : ∀ c e f, o ≠ .cells c e f) (hx' : RelO g (g.loc i).1 (g.loc i).2 x' o') :
    RelW w0 g (S.set i x') { w with heap := w.heap.setIfInBounds (g.loc i).1 o' } := by
  have hb := (h.hp i x hx).2.1
  refine h.upd hx (below_set h.below hb o') (by simp) (fun k _ hk => set_far w _ k o' hk) (set_heap w _ o' (h.lt hx)) (fun p u hu => ?_) hx'
  exfalso
  have := h.ice _ p u hu
  unfold World.cell? at this
  simp only [ho] at this
  cases o <;> first | exact absurd rfl (hn _ _ _) | cases this

/-- A new map or iterator. -/
theorem RelW.newObj (h : RelW w0 g S w) {x : AObj} {o : Obj} (hx : ∀ g', g.le g' → RelO g' w.heap.size 0 x o) : RelW w0 ((g.block #[] 0).obj w.heap.size 0) (S.add x) (w.alloc o) ∧ g.le ((g.block #[] 0).obj w.heap.size 0) := by
  have hle := (le_block h #[] 0).trans (le_obj (g.block #[] 0) w.heap.size 0)
  have h1 : RelW w0 (g.block #[] 0) S (w.alloc o) := by
    have hle := le_block h #[] 0
    refine ⟨h.below.alloc h.below.size _, by simp [G.block, h.nb], h.n, fun b p u hu => ?_, fun i x hx => ?_, h.sep⟩
    · simp only [G.block] at hu
      split at hu
      · split at hu <;> (try (cases hu; done))
      · have := h.ice b p u hu
        rw [World.cell?_alloc_lt w _ _ (h.iceLt hu)]
        exact this
    · obtain ⟨h1, h2, o, h3, h4⟩ := h.hp i x hx
      have hlt := h.lt hx
      refine ⟨h1, h2, o, ?_, h4.mono hle (by rw [h.nb]; exact hlt) (fun p => ?_)⟩
      · show (w.alloc _).heap[(g.loc i).1]? = _
        refine (Below.heap_alloc w _ _ hlt).trans ?_
        exact h3
      · simp only [G.block]
        rw [if_neg (by rw [h.nb]; exact Nat.ne_of_lt hlt)]
  refine ⟨h1.obj (heap_alloc_new w o) h.below.size (fun i y hy => ?_) (hx _ hle), hle⟩
  have := h.lt hy
  show (g.loc i).1 ≠ _
  omega

theorem ba_beq (a b : ByteArray) : (a == b) = true ↔ a = b := by
  obtain ⟨⟨a⟩⟩ := a; obtain ⟨⟨b⟩⟩ := b
  constructor
  · intro h
    have : ((⟨a⟩ : Array UInt8) == ⟨b⟩) = true := h
    simpa using this
  · intro h; cases h
    show ((⟨a⟩ : Array UInt8) == ⟨a⟩) = true
    simp

theorem key_same {kk : KK} {x y : V} {u u' : Value} (hx : RelV g x u) (hy : RelV g y u') (h : V.keyEq kk x y = some true) : Instr.sameBits 10000 u' u = true := by
  unfold V.keyEq at h
  split at h <;> (try (cases h; done))
  all_goals (split at h <;> (try (cases h; done)))
  · rename_i hh
    obtain ⟨_, rfl⟩ := hh
    rw [rel_int hx, rel_int hy]
    simp at h
    simp [Instr.sameBits, h]
  · rw [rel_str hx, rel_str hy]
    injection h with h
    have := (ba_beq _ _).1 h
    subst this
    exact (ba_beq _ _).2 rfl
  · rw [rel_bool hx, rel_bool hy]
    simp at h
    simp [Instr.sameBits, h]

theorem isKey_one {kk : KK} {v : V} (h : v.isKey kk = true) : v.one = true := by cases v <;> simp [V.isKey] at h <;> rfl
end
end Go.VM
