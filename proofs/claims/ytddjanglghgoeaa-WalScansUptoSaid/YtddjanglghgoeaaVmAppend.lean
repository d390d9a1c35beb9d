/-
  The value machine: append.
-/
import Derived.Test.YtddjanglghgoeaaVmHeap
set_option linter.unusedVariables false
set_option linter.unusedSimpArgs false
namespace Go.VM
open Go Go.RowKit

section
variable {P : Program} {w0 w : World} {g : G} {S : St} {n : Nat} {fr : Fr} {a : Act}

/-- What is appended or copied: so many elements, these cells. -/
structure Src (P : Program) (w : World) (sz m : Nat) (u : Value) (ys : List Value) : Prop where
  len : ys.length = m * sz
  lenOf : ∀ w', (Builtin.lenOf u).run P w' = .ok m w'
  cells : ∀ w' : World, w'.heap = w.heap → (Builtin.firstCells sz m u).run P w' = .ok ys.toArray w'

theorem cell_of_heap {w w' : World} (h : w'.heap = w.heap) (x : Addr) : w'.cell? x = w.cell? x := World.cell?_of_block (by rw [h])

theorem firstCells_reads {sz m c : Nat} {q : Option Addr} {us : List Value} (hl : us.length = m * sz) (hq : m = 0 ∨ ∃ b p, q = some ⟨b, p, none⟩ ∧ Reads w b p us) (w' : World) (hw : w'.heap = w.heap) :
    (Builtin.firstCells sz m (.slice q m c)).run P w' = .ok us.toArray w' := by
  rcases hq with rfl | ⟨b, p, rfl, rd⟩
  · have : us = [] := List.eq_nil_of_length_eq_zero (by simpa using hl)
    subst this
    cases q with
    | none => simp [Builtin.firstCells]
    | some q => simp [Builtin.firstCells, loadCells, loadCellsFrom]
  · have := run_loadCells_list (P := P) w' ⟨b, p, none⟩ us (fun j v hj => by rw [add_at, cell_of_heap hw]; exact rd j v hj)
    simp only [Builtin.firstCells]
    rw [← hl]
    exact this

theorem elems_src (hW : RelW w0 g S w) {sz m : Nat} {v : V} {u : Value} {cs : List V} (h : RelV g v u) (he : v.elems S sz = some (m, cs)) : ∃ us, RelL g cs us ∧ Ones us ∧ Src P w sz m u us := by
  obtain ⟨hl, us, r, on, hsh⟩ := elems_rel hW h he
  have hul : us.length = m * sz := by rw [← r.len, hl]
  refine ⟨us, r, on, hul, ?_, ?_⟩
  · rcases hsh with ⟨q, c, rfl, _⟩ | ⟨s, rfl, _, rfl, _⟩
    · intro w'; simp [Builtin.lenOf]
    · intro w'; simp [Builtin.lenOf]
  · intro w' hw
    rcases hsh with ⟨q, c, rfl, hq⟩ | ⟨s, rfl, rfl, rfl, rfl⟩
    · exact firstCells_reads hul hq w' hw
    · simp only [Builtin.firstCells, Sem.run_pure]
      congr 1
      apply Array.toList_inj.1
      have e : s.extract 0 s.size = s := ByteArray.extract_zero_size
      rw [e]
      simp

theorem run_append_room' {t t2 e ty : TypeId} {i : TypeInfo} {d2 : TypeDesc} (ht : P.underlying t = some (.slice e)) (ht2 : P.underlying t2 = some d2) (hni : ∀ k, d2 ≠ .int k) (hi : P.info? e = some i)
    {b p m k c : Nat} {u : Value} {ys : List Value} (hs : Src P w i.size k u ys) (on : Ones ys) {row : Array Value} {ty' : TypeId} {fr : Nat × Nat} (hb : w.heap[b]? = some (.cells row ty' fr)) (hf : NoFz fr row.size)
    (hroom : m + k ≤ c) (hfit : p + m * i.size + ys.length ≤ row.size) :
    (Builtin.append_ #[t, t2] ty #[.slice (some ⟨b, p, none⟩) m c, u]).run P w =
      .ok (.slice (some ⟨b, p, none⟩) (m + k) c) (w.setRow b (row.toList.take (p + m * i.size) ++ ys ++ row.toList.drop (p + m * i.size + ys.length)).toArray) := by
  have hst := run_storeCells_any (P := P) b (p + m * i.size) ty' fr ys 0 row w hb hf (by omega) on
  simp only [Nat.add_zero] at hst
  have hz : (match d2 with | .int _ => true | _ => false) = false := by cases d2 <;> first | rfl | exact absurd rfl (hni _)
  simp [Builtin.append_, run_underlying ht, run_underlying ht2, Go.sizeOf, typeInfo, hi, hz, hs.lenOf, hroom, hs.cells w rfl, add_at, hst]

theorem run_append_none' {t t2 e ty : TypeId} {i : TypeInfo} {d2 : TypeDesc} (ht : P.underlying t = some (.slice e)) (ht2 : P.underlying t2 = some d2) (hni : ∀ k, d2 ≠ .int k) (hi : P.info? e = some i)
    {u : Value} {ys : List Value} (hs : Src P w i.size 0 u ys) : (Builtin.append_ #[t, t2] ty #[.slice none 0 0, u]).run P w = .ok (.slice none 0 0) w := by
  have hz : (match d2 with | .int _ => true | _ => false) = false := by cases d2 <;> first | rfl | exact absurd rfl (hni _)
  simp [Builtin.append_, run_underlying ht, run_underlying ht2, Go.sizeOf, typeInfo, hi, hz, hs.lenOf, hs.cells w rfl]

theorem run_append_grow' {t t2 e ty : TypeId} {i : TypeInfo} {z : Value} {d2 : TypeDesc} (ht : P.underlying t = some (.slice e)) (ht2 : P.underlying t2 = some d2) (hni : ∀ k, d2 ≠ .int k) (hi : P.info? e = some i) (hz : i.zero = some z)
    {q : Option Addr} {m k c : Nat} {us : List Value} (hl : us.length = m * i.size) (hq : m = 0 ∨ ∃ b p, q = some ⟨b, p, none⟩ ∧ Reads w b p us) {u : Value} {ys : List Value} (hs : Src P w i.size k u ys)
    (hgrow : c < m + k) (hby : i.bytes ≠ 0) (hroom : (m + k) * i.bytes ≤ 140737488355328) :
    (Builtin.append_ #[t, t2] ty #[.slice q m c, u]).run P w =
      .ok (.slice (some ⟨w.heap.size, 0, none⟩) (m + k) (grownCap w (m + k) c e)) (w.drew.alloc (.cells (us.toArray ++ ys.toArray ++ Builtin.zeroCells z.cells (grownCap w (m + k) c e - (m + k))) e)) := by
  have hzz : (match d2 with | .int _ => true | _ => false) = false := by cases d2 <;> first | rfl | exact absurd rfl (hni _)
  have hnr : ¬ (m + k ≤ c) := by omega
  have h48 : ¬ (281474976710656 < Builtin.nextslicecap (m + k) c * i.bytes) := by
    have := growslice_fits hgrow hroom
    omega
  have hfo := firstCells_reads (P := P) (w := w) (c := c) hl hq w.drew rfl
  have hfn := hs.cells w.drew rfl
  simp [Builtin.append_, run_underlying ht, run_underlying ht2, Go.sizeOf, typeInfo, zeroValue, hi, hz, hzz, hby, hs.lenOf, hnr, h48, Question.forced, hfo, hfn, newRow, grownCap]
  congr 2
  apply Array.ext'
  simp [List.append_assoc]

theorem size_zeroCells' (z : Array Value) (m : Nat) : (Builtin.zeroCells z m).size = m * z.size := by simp [Builtin.zeroCells]

/-- What grows lies in a new block; what is told of it. -/
theorem sim_grown (h : RelW w0 g S w) {cs xs : List V} {us ys : List Value} (hr : RelL g cs us) (on : Ones us) (hr2 : RelL g xs ys) (on2 : Ones ys) {m k sz : Nat} (hl : us.length = m * sz) (hl2 : ys.length = k * sz)
    (mu : Bool) {z : Array Value} (hz : z.size = sz) (e : TypeId) {c : Nat} (hc : m + k ≤ c) :
    ∃ g', g.le g' ∧ RelW w0 g' (grown S mu (cs ++ xs) (m + k) sz).2 (w.drew.alloc (.cells (us.toArray ++ ys.toArray ++ Builtin.zeroCells z (c - (m + k))) e)) ∧
      RelV g' (grown S mu (cs ++ xs) (m + k) sz).1 (.slice (some ⟨w.heap.size, 0, none⟩) (m + k) c) := by
  obtain ⟨g1, l1, h1, e1, s1, b1, f1, i1⟩ := new_block h.drew (us.toArray ++ ys.toArray ++ Builtin.zeroCells z (c - (m + k))) e (0, 0)
  have hsz : (us.toArray ++ ys.toArray ++ Builtin.zeroCells z (c - (m + k))).size = c * sz := by
    simp only [Array.size_append, List.size_toArray, size_zeroCells', hl, hl2, hz, ← Nat.add_mul]
    congr 1; omega
  have hrow : ∀ (j : Nat) (v : Value), (us ++ ys)[j]? = some v → (us.toArray ++ ys.toArray ++ Builtin.zeroCells z (c - (m + k)))[0 + j]? = some v := fun j v hv => by
    rw [Nat.zero_add]
    have hj := (List.getElem?_eq_some_iff.1 hv).1
    rw [Array.getElem?_append_left (by simpa using hj)]
    simpa using hv
  have hrel := RelL_mono l1 _ _ (hr.append hr2)
  have hlen : (cs ++ xs).length = (m + k) * sz := by rw [List.length_append, hr.len, hr2.len, hl, hl2, Nat.add_mul]
  cases mu with
  | false =>
    obtain ⟨g2, l2, h2, r2⟩ := fin_val (q := 0) (n := m + k) (sz := sz) (cap := c) h1 e1 (.inl rfl) s1 b1 f1 hrel (on.append on2) hrow (fun i _ => i1 i) hlen hc (by rw [hsz]; simp)
    exact ⟨g2, l1.trans l2, h2, r2⟩
  | true =>
    obtain ⟨g2, l2, h2, r2, _⟩ := fin_mut (q := 0) (n := m + k) (sz := sz) (cap := c) h1 e1 (.inl rfl) s1 b1 f1 hrel (on.append on2) hrow i1 hc (by rw [hsz]; simp)
    exact ⟨g2, l1.trans l2, h2, r2⟩

theorem simAppend (hW : RelW w0 g S w) {t t2 e ty : TypeId} {i : TypeInfo} {z : Value} {d2 : TypeDesc} (ht : P.underlying t = some (.slice e)) (ht2 : P.underlying t2 = some d2) (hni : ∀ k, d2 ≠ .int k) (hi : P.info? e = some i)
    (hz : i.zero = some z) (hzs : z.cells.size = i.size) (hby : i.bytes ≠ 0) {s : V} {v u : Value} (hs : RelV g s v) {k : Nat} {xs : List V} {ys : List Value} (hr2 : RelL g xs ys) (on2 : Ones ys) (src : Src P w i.size k u ys)
    {mu : Bool} {r : V} {S' : St} (ha : appendTo S i.size i.bytes mu k xs s = some (r, S')) :
    ∃ v' w' g', (Builtin.append_ #[t, t2] ty #[v, u]).run P w = .ok v' w' ∧ g.le g' ∧ RelW w0 g' S' w' ∧ RelV g' r v' := by
  unfold appendTo at ha
  split at ha
  · rename_i cs m sz' tk
    split at ha
    · cases ha
    rename_i hcond
    have hlx : xs.length = k * i.size := Decidable.byContradiction fun h => hcond (.inr (.inl h))
    have hroom : (m + k) * i.bytes ≤ 140737488355328 := by
      have : roomOk (m + k) i.bytes = true := by
        cases h : roomOk (m + k) i.bytes with
        | true => rfl
        | false => exact absurd (.inr (.inr h)) hcond
      simpa [roomOk] using this
    obtain ⟨hlen, hs⟩ := hs
    rcases hs with ⟨rfl, rfl, rfl, rfl⟩ | ⟨htk, b, p, cap, us, rfl, hc, hr, on, ic, hcap, htok⟩ | ⟨htk, rfl, rfl, x0, rfl⟩
    rotate_right
    · -- a row without places
      have hsz : sz' = i.size := Decidable.byContradiction fun h => hcond (.inl ⟨(by rcases htk with h | h <;> (rw [h]; intro hh; cases hh)), h⟩)
      subst hsz
      have same : ∀ (hk0 : k = 0), (Builtin.append_ #[t, t2] ty #[.slice (some x0) 0 0, u]).run P w = .ok (.slice (some x0) 0 0) w := fun hk0 => by
        subst hk0
        have hy : ys = [] := List.eq_nil_of_length_eq_zero (by simpa using src.len)
        subst hy
        have hzz : (match d2 with | .int _ => true | _ => false) = false := by cases d2 <;> first | rfl | exact absurd rfl (hni _)
        have hst : (storeCells (x0.add (0 * i.size)) []).run P w = .ok () w := rfl
        simp only [Nat.zero_mul] at hst
        simp [Builtin.append_, run_underlying ht, run_underlying ht2, Go.sizeOf, typeInfo, hi, hzz, src.lenOf, src.cells w rfl, hst]
      rcases htk with rfl | rfl
      · simp only at ha
        split at ha
        · rename_i hk
          injection ha with ha; injection ha with e1 e2; subst e1; subst e2
          exact ⟨_, w, g, same hk, G.le.refl g, hW, hlen, .inr (.inr ⟨.inl rfl, rfl, rfl, x0, rfl⟩)⟩
        · cases ha
      · simp only at ha
        split at ha
        · rename_i hk
          injection ha with ha; injection ha with e1 e2; subst e1; subst e2
          exact ⟨_, w, g, same hk, G.le.refl g, hW, hlen, .inr (.inr ⟨.inr rfl, rfl, rfl, x0, rfl⟩)⟩
        · rename_i hk
          injection ha with ha
          obtain ⟨g', l, h, rv⟩ := sim_grown hW (cs := []) (us := []) rfl (fun _ hx => by cases hx) hr2 on2 (m := 0) (k := k) (sz := i.size) (by simp) src.len mu hzs e (grownCap_ge w (0 + k) 0 e)
          refine ⟨_, _, g', run_append_grow' (us := []) ht ht2 hni hi hz (by simp) (.inl rfl) src (by omega) hby hroom, l, ?_, ?_⟩
          · have : S' = (grown S mu ([] ++ xs) (0 + k) i.size).2 := by rw [ha]
            rw [this]; exact h
          · have : r = (grown S mu ([] ++ xs) (0 + k) i.size).1 := by rw [ha]
            rw [this]; exact rv
    · -- nil
      simp only at ha
      split at ha
      · rename_i hk
        subst hk
        injection ha with ha; injection ha with e1 e2; subst e1; subst e2
        exact ⟨_, w, g, run_append_none' ht ht2 hni hi src, G.le.refl g, hW, ⟨by simp, .inl ⟨rfl, rfl, rfl, rfl⟩⟩⟩
      · rename_i hk
        injection ha with ha
        obtain ⟨g', l, h, rv⟩ := sim_grown hW (cs := []) (us := []) rfl (fun _ hx => by cases hx) hr2 on2 (m := 0) (k := k) (sz := i.size) (by simp) src.len mu hzs e (grownCap_ge w (0 + k) 0 e)
        refine ⟨_, _, g', run_append_grow' (us := []) ht ht2 hni hi hz (by simp) (.inl rfl) src (by omega) hby hroom, l, ?_, ?_⟩
        · have : S' = (grown S mu ([] ++ xs) (0 + k) i.size).2 := by rw [ha]
          rw [this]; exact h
        · have : r = (grown S mu ([] ++ xs) (0 + k) i.size).1 := by rw [ha]
          rw [this]; exact rv
    · have hsz : sz' = i.size := Decidable.byContradiction fun h => hcond (.inl ⟨htk, h⟩)
      subst hsz
      have hlu : us.length = m * i.size := by rw [← hr.len, hlen]
      have grow : ∀ S1 : St, RelW w0 g S1 w → cap < m + k → ∀ mu', ∃ v' w' g', (Builtin.append_ #[t, t2] ty #[.slice (some ⟨b, p, none⟩) m cap, u]).run P w = .ok v' w' ∧ g.le g' ∧
          RelW w0 g' (grown S1 mu' (cs ++ xs) (m + k) i.size).2 w' ∧ RelV g' (grown S1 mu' (cs ++ xs) (m + k) i.size).1 v' := fun S1 hW1 hlt mu' => by
        obtain ⟨g', l, h, rv⟩ := sim_grown hW1 hr on hr2 on2 hlu src.len mu' hzs e (grownCap_ge w (m + k) cap e)
        exact ⟨_, _, g', run_append_grow' ht ht2 hni hi hz hlu (.inr ⟨b, p, rfl, hW.reads ic⟩) src hlt hby hroom, l, h, rv⟩
      have same : ∀ (hk0 : k = 0), ∃ w', (Builtin.append_ #[t, t2] ty #[.slice (some ⟨b, p, none⟩) m cap, u]).run P w = .ok (.slice (some ⟨b, p, none⟩) m cap) w := fun hk0 => by
        subst hk0
        have hy : ys = [] := List.eq_nil_of_length_eq_zero (by simpa using src.len)
        subst hy
        have hzz : (match d2 with | .int _ => true | _ => false) = false := by cases d2 <;> first | rfl | exact absurd rfl (hni _)
        refine ⟨w, ?_⟩
        have hst : (storeCells (⟨b, p + m * i.size, none⟩ : Addr) []).run P w = .ok () w := rfl
        simp [Builtin.append_, run_underlying ht, run_underlying ht2, Go.sizeOf, typeInfo, hi, hzz, src.lenOf, hc, src.cells w rfl, add_at, hst]
      split at ha
      · exact absurd rfl htk
      · -- the capacity is the length
        split at ha
        · rename_i hk
          injection ha with ha; injection ha with e1 e2; subst e1; subst e2
          obtain ⟨_, hrun⟩ := same hk
          exact ⟨_, w, g, hrun, G.le.refl g, hW, hlen, .inr (.inl ⟨htk, b, p, cap, us, rfl, hc, hr, on, ic, hcap, htok⟩)⟩
        · rename_i hk
          injection ha with ha
          obtain ⟨v', w', g', e1, l, h, rv⟩ := grow S hW (by have := hcap rfl; omega) mu
          refine ⟨v', w', g', e1, l, ?_, ?_⟩
          · rw [ha] at h; exact h
          · rw [ha] at rv; exact rv
      · -- a token
        rename_i q
        split at ha
        · cases ha
        rename_i hmu
        split at ha <;> (try (cases ha; done))
        rename_i hlive
        injection ha with ha
        obtain ⟨hq1, hq10, hq2⟩ := htok q rfl
        by_cases hfit : m + k ≤ cap
        · obtain ⟨_, hb0, o, ho, row, ty', fr', rfl, hf, hs, hfr⟩ := hW.hp q _ hlive
          have hWk := hW.kill q
          have hfreeq : ∀ j y, (S.kill q).hp j = some y → (g.loc j).1 ≠ (g.loc q).1 := fun j y hy => by
            simp only [St.kill] at hy
            split at hy
            · cases hy
            · rename_i hjq; exact hW.sep j q y _ hy hlive hjq
          by_cases hlt : m < cap
          · obtain ⟨k1, k2, k3⟩ := hq2 hlt
            rw [hq10] at hb0 ho hs hfr hfreeq
            rw [k1] at hfr
            have hcs : (m + k) * i.size ≤ cap * i.size := Nat.mul_le_mul_right _ hfit
            rw [Nat.add_mul] at hcs
            have hin : p + m * i.size + ys.length ≤ row.size := by rw [src.len, hs]; omega
            have hrun := run_append_room' (ty := ty) (p := p) ht ht2 hni hi src on2 ho hf hfit hin
            let row' : Array Value := (row.toList.take (p + m * i.size) ++ ys ++ row.toList.drop (p + m * i.size + ys.length)).toArray
            have hrowsz : row'.size = row.size := by
              simp only [row', List.size_toArray, List.length_append, List.length_take, List.length_drop, Array.length_toList]
              omega
            have ho' : (w.setRow b row').heap[b]? = some (.cells row' ty' fr') := setRow_heapAny w b row row' ty' fr' ho
            have hlow : ∀ j, j < p + m * i.size → row'[j]? = row[j]? := fun j hj => by
              simp only [row', List.getElem?_toArray]
              rw [List.append_assoc, List.getElem?_append_left (by simp; omega), List.getElem?_take_of_lt hj, Array.getElem?_toList]
            have hmid : ∀ j v, ys[j]? = some v → row'[p + m * i.size + j]? = some v := fun j v hv => by
              have hj := (List.getElem?_eq_some_iff.1 hv).1
              simp only [row', List.getElem?_toArray]
              rw [List.getElem?_append_left (by simp; omega), List.getElem?_append_right (by simp; omega)]
              have : p + m * i.size + j - (List.take (p + m * i.size) row.toList).length = j := by simp; omega
              rw [this]
              exact hv
            have hW1 : RelW w0 g (S.kill q) (w.setRow b row') := hWk.write hfreeq (below_setRow' hW.below hb0 _) (by simp [World.setRow]) (fun x hx hne => setRow_far w b x row' hne) (fun j v hv => by
              have hold := hW.ice b j v hv
              rw [cell_of_row w b j row ty' fr' ho] at hold
              have hj : j < p + m * i.size := by
                rcases Nat.lt_or_ge j (p + m * i.size) with h | h
                · exact h
                · rw [hfr j h] at hv; cases hv
              rw [cell_of_row _ b j row' ty' fr' ho', hlow j hj]
              exact hold)
            have hicerow : ∀ j v, us[j]? = some v → row[p + j]? = some v := fun j v hv => by
              have := hW.ice b (p + j) v (ic j v hv)
              rwa [cell_of_row w b _ row ty' fr' ho] at this
            obtain ⟨g', l, h2, rv⟩ := fin_val (q := p) (n := m + k) (sz := i.size) (cap := cap) (cs := cs ++ xs) (us := us ++ ys) hW1 ho' (by rw [hrowsz]; exact hf) (by rw [hrowsz]; exact hs) hb0 hfreeq (hr.append hr2) (on.append on2)
              (fun j v hv => by
                rcases Nat.lt_or_ge j us.length with h | h
                · rw [List.getElem?_append_left h] at hv
                  rw [hlow (p + j) (by rw [← hlu]; omega)]
                  exact hicerow j v hv
                · rw [List.getElem?_append_right h] at hv
                  have := hmid _ v hv
                  rw [hlu] at this
                  rwa [show p + m * i.size + (j - m * i.size) = p + j from by rw [hlu] at h; omega] at this)
              (fun j hj => hfr j (by rw [List.length_append, hlu] at hj; omega)) (by rw [List.length_append, hr.len, hr2.len, hlu, src.len, Nat.add_mul]) hfit (by rw [hrowsz, hs]; exact k3)
            refine ⟨_, _, g', hrun, l, ?_, ?_⟩
            · have : S' = (grown (S.kill q) false (cs ++ xs) (m + k) i.size).2 := by rw [ha]
              rw [this]; exact h2
            · have : r = (grown (S.kill q) false (cs ++ xs) (m + k) i.size).1 := by rw [ha]
              rw [this]; exact rv
          · -- full, and nothing is appended
            have hk0 : k = 0 := by omega
            obtain ⟨_, hrun⟩ := same hk0
            have hmc : m = cap := by omega
            have hxs : xs = [] := List.eq_nil_of_length_eq_zero (by rw [hlx, hk0]; simp)
            have hadd : RelW w0 (g.obj (g.loc q).1 (g.loc q).2) ((S.kill q).add .tok) w := hWk.obj ho hb0 hfreeq ⟨row, ty', fr', rfl, hf, hs, hfr⟩
            have hle := le_obj g (g.loc q).1 (g.loc q).2
            refine ⟨_, w, _, hrun, hle, ?_, ?_⟩
            · have : S' = (grown (S.kill q) false (cs ++ xs) (m + k) i.size).2 := by rw [ha]
              rw [this]; exact hadd
            · have : r = (grown (S.kill q) false (cs ++ xs) (m + k) i.size).1 := by rw [ha]
              rw [this]
              simp only [grown, Bool.false_eq_true, if_false, hxs, List.append_nil, hk0, Nat.add_zero]
              refine ⟨hlen, .inr (.inl ⟨(by intro hh; cases hh), b, p, cap, us, rfl, hc, RelL_mono hle _ _ hr, on, ic.mono hle, fun hh => (by cases hh), fun x hx => ?_⟩)⟩
              injection hx with hx; subst hx
              refine ⟨by show S.n < g.n + 1; rw [hW.n]; omega, ?_, fun hh => (by omega)⟩
              show (if S.n = g.n then _ else _ : Nat × Nat).1 = b
              rw [if_pos hW.n.symm]; exact hq10
        · obtain ⟨v', w', g', e1, l, h, rv⟩ := grow (S.kill q) (hW.kill q) (by omega) false
          refine ⟨v', w', g', e1, l, ?_, ?_⟩
          · rw [ha] at h; exact h
          · rw [ha] at rv; exact rv
      · split at ha
        · rename_i hk
          injection ha with ha; injection ha with e1 e2; subst e1; subst e2
          obtain ⟨_, hrun⟩ := same hk
          exact ⟨_, w, g, hrun, G.le.refl g, hW, hlen, .inr (.inl ⟨htk, b, p, cap, us, rfl, hc, hr, on, ic, hcap, htok⟩)⟩
        · cases ha
  · rename_i o off m sz'
    split at ha
    · cases ha
    rename_i hcond
    have hsz : sz' = i.size := Decidable.byContradiction fun h => hcond (.inl h)
    have hlx : xs.length = k * i.size := Decidable.byContradiction fun h => hcond (.inr (.inl h))
    have hroom : (m + k) * i.bytes ≤ 140737488355328 := by
      have : roomOk (m + k) i.bytes = true := by
        cases h : roomOk (m + k) i.bytes with
        | true => rfl
        | false => exact absurd (.inr (.inr h)) hcond
      simpa [roomOk] using this
    subst hsz
    obtain ⟨cs, hcs, ha⟩ := Option.bind_eq_some_iff.1 ha
    split at ha
    · rename_i hin
      injection ha with ha
      obtain ⟨ho1, cap, rfl, hc, hb1, hb2⟩ := hs
      have hlive : S.hp o = some (.cells cs) := by
        unfold St.cells at hcs
        split at hcs
        · rename_i heq; injection hcs with hcs; subst hcs; exact heq
        · cases hcs
      obtain ⟨_, hb0, ob, ho, row, ty', fr', rfl, hf, hs, hni', zs, hrz, onz, hrow⟩ := hW.hp o _ hlive
      let us := (zs.drop off).take (m * i.size)
      have hr : RelL g ((cs.drop off).take (m * i.size)) us := (hrz.drop off).take _
      have on : Ones us := (onz.drop off).take _
      have hlu : us.length = m * i.size := by
        simp only [us, List.length_take, List.length_drop]
        rw [← hrz.len]; omega
      have hus : ∀ j v, us[j]? = some v → row[(g.loc o).2 + off + j]? = some v := fun j v hv => by
        simp only [us, List.getElem?_take, List.getElem?_drop] at hv
        split at hv
        · have := hrow _ v hv
          rwa [← Nat.add_assoc] at this
        · cases hv
      have hWk := hW.kill o
      have hfree : ∀ j y, (S.kill o).hp j = some y → (g.loc j).1 ≠ (g.loc o).1 := fun j y hy => by
        simp only [St.kill] at hy
        split at hy
        · cases hy
        · rename_i hjq; exact hW.sep j o y _ hy hlive hjq
      have rd : Reads w (g.loc o).1 ((g.loc o).2 + off) us := fun j v hv => by
        rw [cell_of_row w _ _ row ty' fr' ho]
        exact hus j v hv
      by_cases hfit : m + k ≤ cap
      · have hcsz : (m + k) * i.size ≤ cap * i.size := Nat.mul_le_mul_right _ hfit
        rw [Nat.add_mul] at hcsz
        have hin2 : (g.loc o).2 + off + m * i.size + ys.length ≤ row.size := by rw [src.len, hs]; omega
        have hrun := run_append_room' (ty := ty) (p := (g.loc o).2 + off) ht ht2 hni hi src on2 ho hf hfit hin2
        generalize hp : (g.loc o).2 + off = p at *
        generalize hbb : (g.loc o).1 = b at *
        let row' : Array Value := (row.toList.take (p + m * i.size) ++ ys ++ row.toList.drop (p + m * i.size + ys.length)).toArray
        have hrowsz : row'.size = row.size := by
          simp only [row', List.size_toArray, List.length_append, List.length_take, List.length_drop, Array.length_toList]
          omega
        have ho' : (w.setRow b row').heap[b]? = some (.cells row' ty' fr') := setRow_heapAny w b row row' ty' fr' ho
        have hlow : ∀ j, j < p + m * i.size → row'[j]? = row[j]? := fun j hj => by
          simp only [row', List.getElem?_toArray]
          rw [List.append_assoc, List.getElem?_append_left (by simp; omega), List.getElem?_take_of_lt hj, Array.getElem?_toList]
        have hmid : ∀ j v, ys[j]? = some v → row'[p + m * i.size + j]? = some v := fun j v hv => by
          have hj := (List.getElem?_eq_some_iff.1 hv).1
          simp only [row', List.getElem?_toArray]
          rw [List.getElem?_append_left (by simp; omega), List.getElem?_append_right (by simp; omega)]
          have : p + m * i.size + j - (List.take (p + m * i.size) row.toList).length = j := by simp; omega
          rw [this]
          exact hv
        have hW1 : RelW w0 g (S.kill o) (w.setRow b row') := hWk.write hfree (below_setRow' hW.below hb0 _) (by simp [World.setRow]) (fun x hx hne => setRow_far w b x row' hne) (fun j v hv => by rw [hni' j] at hv; cases hv)
        have hrow2 : ∀ (j : Nat) (v : Value), (us ++ ys)[j]? = some v → row'[p + j]? = some v := fun j v hv => by
          rcases Nat.lt_or_ge j us.length with h | h
          · rw [List.getElem?_append_left h] at hv
            rw [hlow (p + j) (by rw [← hlu]; omega)]
            exact hus j v hv
          · rw [List.getElem?_append_right h] at hv
            have := hmid _ v hv
            rw [hlu] at this
            rwa [show p + m * i.size + (j - m * i.size) = p + j from by rw [hlu] at h; omega] at this
        have hb2' : p + cap * i.size ≤ row'.size := by rw [hrowsz, hs]; exact hb2
        cases mu with
        | false =>
          obtain ⟨g', l, h2, rv⟩ := fin_val (q := p) (n := m + k) (sz := i.size) (cap := cap) hW1 ho' (by rw [hrowsz]; exact hf) (by rw [hrowsz]; exact hs) hb0 hfree (hr.append hr2) (on.append on2) hrow2
            (fun j hj => hni' j) (by rw [List.length_append, hr.len, hr2.len, hlu, src.len, Nat.add_mul]) hfit hb2'
          refine ⟨_, _, g', hrun, l, ?_, ?_⟩
          · rw [show S' = (grown (S.kill o) false (List.take (m * i.size) (List.drop off cs) ++ xs) (m + k) i.size).2 from by rw [ha]]; exact h2
          · rw [show r = (grown (S.kill o) false (List.take (m * i.size) (List.drop off cs) ++ xs) (m + k) i.size).1 from by rw [ha]]; exact rv
        | true =>
          obtain ⟨g', l, h2, rv, _⟩ := fin_mut (q := p) (n := m + k) (sz := i.size) (cap := cap) hW1 ho' (by rw [hrowsz]; exact hf) (by rw [hrowsz]; exact hs) hb0 hfree (hr.append hr2) (on.append on2) hrow2 hni' hfit hb2'
          refine ⟨_, _, g', hrun, l, ?_, ?_⟩
          · rw [show S' = (grown (S.kill o) true (List.take (m * i.size) (List.drop off cs) ++ xs) (m + k) i.size).2 from by rw [ha]]; exact h2
          · rw [show r = (grown (S.kill o) true (List.take (m * i.size) (List.drop off cs) ++ xs) (m + k) i.size).1 from by rw [ha]]; exact rv
      · obtain ⟨g', l, h, rv⟩ := sim_grown hWk hr on hr2 on2 hlu src.len mu hzs e (grownCap_ge w (m + k) cap e)
        refine ⟨_, _, g', run_append_grow' ht ht2 hni hi hz hlu (.inr ⟨_, _, rfl, rd⟩) src (by omega) hby hroom, l, ?_, ?_⟩
        · rw [show S' = (grown (S.kill o) mu (List.take (m * i.size) (List.drop off cs) ++ xs) (m + k) i.size).2 from by rw [ha]]; exact h
        · rw [show r = (grown (S.kill o) mu (List.take (m * i.size) (List.drop off cs) ++ xs) (m + k) i.size).1 from by rw [ha]]; exact rv
    · cases ha
  · cases ha
end
end Go.VM
