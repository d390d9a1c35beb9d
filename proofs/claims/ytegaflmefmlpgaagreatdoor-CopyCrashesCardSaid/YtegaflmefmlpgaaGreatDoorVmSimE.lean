/-
  The value machine: every operation that makes or changes memory.
-/
import Derived.Test.YtegaflmefmlpgaaGreatDoorVmEI
set_option linter.unusedVariables false
set_option linter.unusedSimpArgs false
namespace Go.VM
open Go Go.RowKit

def EI.quiet : EI → Bool
  | .call .. | .callV .. | .panic .. => false
  | _ => true

section
variable {P : Program} {w0 w : World} {g : G} {S : St} {n : Nat} {fr : Fr} {a : Act}

theorem St.cells_hp {S : St} {i : Nat} {cs : List V} (h : S.cells i = some cs) : S.hp i = some (.cells cs) := by
  unfold St.cells at h
  split at h
  · rename_i heq; injection h with h; subst h; exact heq
  · cases h

/-- Cells of an object are written. -/
theorem RelW.store (hW : RelW w0 g S w) {i : Nat} {cs : List V} (hc : S.cells i = some cs) {off : Nat} {xs : List V} {ys : List Value} (hr : RelL g xs ys) (on : Ones ys) (hfit : off + xs.length ≤ cs.length) :
    ∃ w', (storeCells ⟨(g.loc i).1, (g.loc i).2 + off, none⟩ ys).run P w = .ok () w' ∧ RelW w0 g (S.set i (.cells (splice cs off xs))) w' := by
  have hlive := St.cells_hp hc
  obtain ⟨_, hb0, ob, ho, row, ty, fr, rfl, hf, hs, hni, zs, hrz, onz, hrow⟩ := hW.hp i _ hlive
  have hzl : zs.length = cs.length := hrz.len.symm
  have hxy : xs.length = ys.length := hr.len
  rcases Nat.eq_zero_or_pos ys.length with h0 | h0
  · obtain rfl : ys = [] := List.eq_nil_of_length_eq_zero h0
    obtain rfl : xs = [] := List.eq_nil_of_length_eq_zero hxy
    refine ⟨w, rfl, ?_⟩
    have : splice cs off [] = cs := by simp [splice]
    rw [this]
    exact hW.upd hlive hW.below rfl (fun _ _ _ => rfl) ho (fun p u hu => by rw [hni] at hu; cases hu) ⟨row, ty, fr, rfl, hf, hs, hni, zs, hrz, onz, hrow⟩
  · have hlast : (g.loc i).2 + zs.length ≤ row.size := by
      have h1 : zs[zs.length - 1]? = some (zs[zs.length - 1]'(by omega)) := List.getElem?_eq_getElem (by omega)
      have h2 := hrow _ _ h1
      have h3 := (Array.getElem?_eq_some_iff.1 h2).1
      omega
    generalize hp : (g.loc i).2 + off = p
    have hrun := run_storeCells_any (P := P) (g.loc i).1 p ty fr ys 0 row w ho hf (by omega) on
    simp only [Nat.add_zero] at hrun
    generalize hr' : (row.toList.take p ++ ys ++ row.toList.drop (p + ys.length)).toArray = row' at hrun
    have hsz : row'.size = row.size := by
      rw [← hr']
      simp only [List.size_toArray, List.length_append, List.length_take, List.length_drop, Array.length_toList]
      omega
    have ho' : (w.setRow (g.loc i).1 row').heap[(g.loc i).1]? = some (.cells row' ty fr) := setRow_heapAny w _ row row' ty fr ho
    refine ⟨_, hrun, hW.upd hlive (below_setRow' hW.below hb0 _) (by simp [World.setRow]) (fun k _ hk => setRow_far w _ k row' hk) ho' (fun p u hu => by rw [hni] at hu; cases hu)
      ⟨row', ty, fr, rfl, by rw [hsz]; exact hf, by rw [hsz]; exact hs, hni, zs.take off ++ ys ++ zs.drop (off + ys.length), splice_rel hrz hr off, ((onz.take _).append on).append (onz.drop _), fun j v hv => ?_⟩⟩
    rw [← hr']
    simp only [List.getElem?_toArray]
    rcases Nat.lt_or_ge j off with h1 | h1
    · rw [List.append_assoc, List.getElem?_append_left (by simp; omega), List.getElem?_take_of_lt h1] at hv
      rw [List.append_assoc, List.getElem?_append_left (by simp; omega), List.getElem?_take_of_lt (by omega), Array.getElem?_toList]
      exact hrow j v hv
    · rcases Nat.lt_or_ge j (off + ys.length) with h2 | h2
      · rw [List.getElem?_append_left (by simp; omega), List.getElem?_append_right (by simp; omega)] at hv
        rw [List.getElem?_append_left (by simp; omega), List.getElem?_append_right (by simp; omega)]
        have e1 : (zs.take off).length = off := by simp; omega
        have e2 : (row.toList.take p).length = p := by simp; omega
        rw [e1] at hv
        rw [e2, show (g.loc i).2 + j - p = j - off from by omega]
        exact hv
      · rw [List.getElem?_append_right (by simp; omega)] at hv
        rw [List.getElem?_append_right (by simp; omega)]
        have e1 : (zs.take off ++ ys).length = off + ys.length := by simp; omega
        have e2 : (row.toList.take p ++ ys).length = p + ys.length := by simp; omega
        rw [e1, List.getElem?_drop] at hv
        rw [e2, List.getElem?_drop, Array.getElem?_toList]
        rw [show off + ys.length + (j - (off + ys.length)) = j from by omega] at hv
        rw [show p + ys.length + ((g.loc i).2 + j - (p + ys.length)) = (g.loc i).2 + j from by omega]
        exact hrow j v hv

theorem madeCells_rel {zero : List V} {z : Array Value} (hr : RelL g zero z.toList) (on : Ones z.toList) (c : Nat) :
    RelL g (List.replicate c zero).flatten ((Array.range (c * z.size)).map fun k => z[k % z.size]!).toList ∧ Ones ((Array.range (c * z.size)).map fun k => z[k % z.size]!).toList := by
  have key : ((Array.range (c * z.size)).map fun k => z[k % z.size]!).toList = (List.replicate c z.toList).flatten := by
    induction c with
    | zero => simp
    | succ c ih =>
      rw [List.replicate_succ', List.flatten_concat, ← ih]
      simp only [Array.toList_map, Array.toList_range]
      rw [Nat.add_mul, Nat.one_mul, List.range_add, List.map_append, List.map_map]
      congr 1
      apply List.ext_getElem
      · simp
      · intro i h1 h2
        simp at h1
        simp [Nat.mul_comm c, Nat.mul_add_mod, Nat.mod_eq_of_lt h1, h1]
  rw [key]
  constructor
  · have flat : ∀ c, RelL g (List.replicate c zero).flatten (List.replicate c z.toList).flatten := fun c => by
      induction c with
      | zero => rfl
      | succ c ih =>
        simp only [List.replicate_succ, List.flatten_cons]
        exact hr.append ih
    exact flat c
  · intro u hu
    obtain ⟨l, hl, hul⟩ := List.mem_flatten.1 hu
    rw [(List.mem_replicate.1 hl).2] at hul
    exact on u hul

theorem done_value {o : Oper} {u : Value} {w' : World} {g' : G} {v : V} {S' : St} {K : V → St → Prop} (hr : (execOp a.eval o).run P w = .ok (.value u) w') (hl : g.le g') (hw : RelW w0 g' S' w') (hv : RelV g' v u) (hk : K v S') : Done P w0 o a g w K :=
  ⟨u, w', g', v, S', .inl hr, hl, hw, hv, hk⟩
theorem done_skip {o : Oper} {w' : World} {g' : G} {S' : St} {K : V → St → Prop} (hr : (execOp a.eval o).run P w = .ok .skip w') (hl : g.le g') (hw : RelW w0 g' S' w') (hk : K (.tup []) S') : Done P w0 o a g w K :=
  ⟨undef, w', g', .tup [], S', .inr ⟨hr, rfl⟩, hl, hw, ⟨[], rfl, rfl⟩, hk⟩

theorem rel_row {e : TypeId} {len sz : Nat} {zero : List V} (h : chkRow P e len sz zero = true) (w : World) : ∃ z, (zeroValue e).run P w = .ok z w ∧ z.cells.size = sz ∧
    RelL g zero ((Array.range (len * sz)).map fun k => z.cells[k % z.cells.size]!).toList ∧ Ones ((Array.range (len * sz)).map fun k => z.cells[k % z.cells.size]!).toList := by
  unfold chkRow at h
  split at h <;> (try (cases h; done))
  rename_i i hi
  split at h <;> (try (cases h; done))
  rename_i z hz
  simp only [Bool.and_eq_true, decide_eq_true_eq] at h
  obtain ⟨h1, h2⟩ := h
  obtain ⟨r, on⟩ := chkL_rel g h2
  exact ⟨z, by simp [zeroValue, typeInfo, hi, hz], h1, r, on⟩

theorem simQuietE (cl : Cl) (hW : RelW w0 g S w) (hF : RelF g n fr a.tmps) {o : Oper} {i : EI} (hc : chkEI P n o.op i = true) {K Kp : V → St → Prop} (h : wE cl i fr S K Kp) (hq : i.quiet = true) : Done P w0 o a g w K := by
  cases i with
  | call => cases hq
  | callV => cases hq
  | panic => cases hq
  | alloc zero =>
    simp only [chkEI] at hc
    split at hc
    · rename_i t ho
      simp only [wE] at h
      obtain ⟨z, ez, rz, oz⟩ := zero_run (P := P) (g := g) hc w
      obtain ⟨g', l, h', _, rv⟩ := new_obj (n := zero.length) (sz := 1) hW rz oz t (by simp)
      refine done_value (w' := w.alloc (.cells z.cells t)) (u := .pointer (some ⟨w.heap.size, 0, none⟩)) ?_ l (by simpa using h') rv h
      simp [execOp, ho, Instr.alloc, ez, newVar, newRow]
    · cases hc
  | box x' =>
    simp only [chkEI] at hc
    split at hc
    · rename_i t x ho
      simp only [wE] at h
      obtain ⟨h1, h2⟩ := h
      obtain ⟨r, on⟩ := cells_rel (chkA_rel hF hc) h1
      obtain ⟨g', l, h', _, rv⟩ := new_obj (n := (x'.ev fr).cells.length) (sz := 1) hW r on t (by simp)
      refine done_value (w' := w.alloc (.cells (a.eval x).cells t)) (u := .pointer (some ⟨w.heap.size, 0, none⟩)) ?_ l (by simpa using h') rv h2
      simp [execOp, ho, Instr.box, newVar, newRow]
    · cases hc
  | buildSlice len' sz how zero parts =>
    simp only [chkEI] at hc
    split at hc
    · rename_i t len ps ho
      simp only [Bool.and_eq_true, decide_eq_true_eq] at hc
      obtain ⟨⟨rfl, h1⟩, h2⟩ := hc
      split at h2 <;> (try (cases h2; done))
      rename_i e ht
      simp only [Bool.and_eq_true, decide_eq_true_eq] at h2
      obtain ⟨⟨hs, h3⟩, h4⟩ := h2
      simp only [wE] at h
      split at h <;> (try (cases h; done))
      rename_i cs hcs
      obtain ⟨z, ez, hz, rz, oz⟩ := rel_row (g := g) h3 w
      obtain ⟨us, e1, r, on⟩ := fill_rel hF h4 hcs rz oz
      have hlen : cs.length = len * sz := by
        have key : ∀ (parts : List (Nat × Nat × Arg)) (zero cs : List V), fillV fr zero parts = some cs → cs.length = zero.length := by
          intro parts
          induction parts with
          | nil => intro zero cs h; simp only [fillV] at h; injection h with h; rw [h]
          | cons p ps ih =>
            intro zero cs h
            obtain ⟨off, s, x⟩ := p
            simp only [fillV] at h
            split at h
            · rename_i hh
              rw [ih _ _ h, splice]
              simp; omega
            · cases h
        rw [key _ _ _ hcs, rz.len]
        simp
      have hrun : (execOp a.eval o).run P w = .ok (.value (.slice (some ⟨w.heap.size, 0, none⟩) len len)) (w.alloc (.cells us e)) := by
        have hle : ¬ (len * sz > 2 ^ 24) := by omega
        have hps : (ps.map fun (i, x) => (i, a.eval x)).toList = ps.toList.map fun q => (q.1, a.eval q.2) := by simp
        by_cases h0 : len * sz = 0
        · have e1' := e1
          rw [h0] at e1'
          simp only [execOp, ho, Instr.buildSlice, Sem.run_bind, run_underlying ht, Result.andThen_ok, szOf_run hs]
          simp only [h0]
          have hz0 : ∀ f : Nat → Value, (Array.range 0).map f = #[] := fun f => by simp
          rw [hz0] at e1'
          simp only [hz0, hps, e1', newRow]
          simp
        · simp only [execOp, ho, Instr.buildSlice, Sem.run_bind, run_underlying ht, Result.andThen_ok, szOf_run hs]
          rw [if_neg hle, if_neg h0]
          simp only [Sem.run_bind, ez, Result.andThen_ok, Sem.run_pure, hps, e1, newRow]
          rfl
      split at h
      · obtain ⟨g', l, h', rv⟩ := new_cap hW r on e hlen
        exact done_value hrun l (by simpa using h') rv h
      · obtain ⟨g', l, h', rv, _⟩ := new_obj hW r on e hlen
        exact done_value hrun l (by simpa using h') rv h
      · obtain ⟨g1, l1, h1', e1', s1, b1, f1, i1⟩ := new_block hW us e (0, 0)
        have husz : us.size = len * sz := by have := r.len; simp at this; omega
        obtain ⟨g2, l2, h2', r2⟩ := fin_val (q := 0) (n := len) (sz := sz) (cap := len) h1' e1' (.inl rfl) s1 b1 f1 (RelL_mono l1 _ _ r) on (fun j v hv => by simpa using hv) (fun i _ => i1 i) hlen (Nat.le_refl _) (by omega)
        exact done_value hrun (l1.trans l2) h2' r2 h
    · cases hc
  | store sz a' x' =>
    simp only [chkEI] at hc
    split at hc
    · rename_i t ad x ho
      simp only [Bool.and_eq_true, decide_eq_true_eq] at hc
      obtain ⟨⟨hs, h1⟩, h2⟩ := hc
      have k := chkA_rel hF h1
      simp only [wE] at h
      split at h <;> (try (cases h; done))
      rename_i i off he
      split at h <;> (try (cases h; done))
      rename_i cs hcs
      obtain ⟨h3, h4, h5, h6⟩ := h
      rw [he] at k
      obtain ⟨k1, e⟩ := k
      obtain ⟨r, on⟩ := cells_rel (chkA_rel hF h2) h4
      obtain ⟨w', hrun, hw'⟩ := RelW.store (P := P) hW hcs (off := off) r on (by omega)
      have hsz : (a.eval x).cells.size = sz := by rw [← h3, r.len]; simp
      refine done_skip ?_ (G.le.refl g) hw' h6
      simp [execOp, ho, e, Instr.storeAt, Instr.sureAddr, storeVar, szOf_run hs, hsz, hrun]
    · cases hc
  | append sz bytes mu s' x' =>
    simp only [chkEI] at hc
    split at hc
    · rename_i xs ts ho
      split at hc <;> (try (cases hc; done))
      rename_i s x t t2 hxs hts
      simp only [Bool.and_eq_true, decide_eq_true_eq] at hc
      obtain ⟨⟨⟨⟨h1, h2⟩, h3⟩, h4⟩, h5⟩ := hc
      obtain rfl : xs = #[s, x] := Array.toList_inj.1 hxs
      obtain rfl : ts = #[t, t2] := Array.toList_inj.1 hts
      split at h4 <;> (try (cases h4; done))
      rename_i d2 hni ht2
      split at h5 <;> (try (cases h5; done))
      rename_i e ht
      split at h5 <;> (try (cases h5; done))
      rename_i i hi
      simp only [Bool.and_eq_true, decide_eq_true_eq] at h5
      obtain ⟨⟨rfl, rfl⟩, h6⟩ := h5
      split at h6 <;> (try (cases h6; done))
      rename_i z hz
      have hzs := of_decide_eq_true h6
      simp only [wE] at h
      split at h <;> (try (cases h; done))
      rename_i k cs hel
      split at h <;> (try (cases h; done))
      rename_i v S' hap
      obtain ⟨ys, r, on, src⟩ := elems_src (P := P) hW (chkA_rel hF h2) hel
      obtain ⟨v', w', g', hrun, l, hw', rv⟩ := simAppend (ty := o.type) hW ht ht2 (fun k hk => hni k hk) hi hz hzs h3 (chkA_rel hF h1) r on src hap
      refine done_value ?_ l hw' rv h
      simp [execOp, ho, resolve, invoke, builtin, hrun]
    · cases hc
  | copy sz d' s' =>
    simp only [chkEI] at hc
    split at hc
    · rename_i xs ts ho
      split at hc <;> (try (cases hc; done))
      rename_i d s t trest hxs hts
      simp only [Bool.and_eq_true] at hc
      obtain ⟨⟨h1, h2⟩, h3⟩ := hc
      obtain rfl : xs = #[d, s] := Array.toList_inj.1 hxs
      obtain rfl : ts = (t :: trest).toArray := Array.toList_inj.1 (by simpa using hts)
      split at h3 <;> (try (cases h3; done))
      rename_i e ht
      have hs := of_decide_eq_true h3
      have kd := chkA_rel hF h1
      simp only [wE] at h
      split at h <;> (try (cases h; done))
      · rename_i m xs' o' off k sz' hel he
        split at h <;> (try (cases h; done))
        rename_i cs hcs
        obtain ⟨rfl, hin, hK⟩ := h
        obtain ⟨ys, r, on, src⟩ := elems_src (P := P) hW (chkA_rel hF h2) hel
        rw [he] at kd
        obtain ⟨_, cap, e1, _⟩ := kd
        have hmin : min m k * sz' ≤ m * sz' := Nat.mul_le_mul_right _ (Nat.min_le_left _ _)
        have hmin2 : min m k * sz' ≤ k * sz' := Nat.mul_le_mul_right _ (Nat.min_le_right _ _)
        obtain ⟨w', hrun, hw'⟩ := RelW.store (P := P) hW hcs (off := off) (r.take (min m k * sz')) (on.take _) (by rw [List.length_take, r.len, src.len]; omega)
        have hfc : (Builtin.firstCells sz' (min m k) (a.eval s)).run P w = .ok (ys.take (min m k * sz')).toArray w := by
          obtain ⟨hl, us, r', on', hsh⟩ := elems_rel hW (chkA_rel hF h2) hel
          have hlen := src.len
          rcases hsh with ⟨q, c, e2, hq⟩ | ⟨s2, e2, rfl, rfl, rfl⟩
          · have hcell := src.cells w rfl
            rw [e2] at hcell ⊢
            cases q with
            | none =>
              rcases hq with rfl | ⟨_, _, hh, _⟩
              · have : ys = [] := List.eq_nil_of_length_eq_zero (by rw [hlen]; simp)
                subst this
                simp [Builtin.firstCells]
              · cases hh
            | some q =>
              rcases hq with rfl | ⟨b, p, hh, rd⟩
              · have : ys = [] := List.eq_nil_of_length_eq_zero (by rw [hlen]; simp)
                subst this
                simp [Builtin.firstCells, loadCells, loadCellsFrom]
              · injection hh with hh; subst hh
                have heq : us = ys := by
                  have h2 := run_loadCells_list (P := P) w ⟨b, p, none⟩ us (fun j v hj => by rw [add_at]; exact rd j v hj)
                  have hul : us.length = m * sz' := by rw [← r'.len, hl]
                  rw [hul] at h2
                  simp only [Builtin.firstCells] at hcell
                  rw [h2] at hcell
                  injection hcell with hcell
                  exact Array.toList_inj.2 hcell
                subst heq
                have h2 := run_loadCells_list (P := P) w ⟨b, p, none⟩ (us.take (min m k * sz')) (fun j v hj => by rw [add_at]; exact (rd.take _) j v hj)
                have hul : (us.take (min m k * sz')).length = min m k * sz' := by rw [List.length_take, hlen]; omega
                rw [hul] at h2
                simp only [Builtin.firstCells]
                exact h2
          · have hcell := src.cells w rfl
            rw [e2] at hcell ⊢
            simp only [Builtin.firstCells, Sem.run_pure] at hcell ⊢
            injection hcell with hcell
            rw [ByteArray.extract_zero_size] at hcell
            have : ys = s2.data.toList.map fun b => Value.int .u8 b.toNat := by
              rw [← Array.toList_inj] at hcell
              simpa using hcell.symm
            subst this
            congr 1
            apply Array.toList_inj.1
            simp [List.map_take]
        refine done_value (v := .int .i64 ((min m k : Nat))) (u := .int .i64 ((min m k : Nat))) ?_ (G.le.refl g) hw' rfl hK
        have hb : (Builtin.copy_ (t :: trest).toArray o.type #[a.eval d, a.eval s]).run P w = .ok (.int .i64 ((min m k : Nat))) w' := by
          have hrun' := hrun
          simp [Builtin.copy_, run_underlying ht, e1, src.lenOf, szOf_run hs]
          have hm : Nat.min m k = min m k := rfl
          rw [hm, hfc]
          simp only [Result.andThen_ok]
          rw [hrun']
          simp [goInt]
        simp [execOp, ho, resolve, invoke, builtin]
        rw [hb]
        rfl
      · rename_i m xs' cs k sz' tk hel he
        obtain ⟨hmin, hK⟩ := h
        obtain ⟨ys, r, on, src⟩ := elems_src (P := P) hW (chkA_rel hF h2) hel
        rw [he] at kd
        obtain ⟨q, cap, e1, _⟩ := rel_sl kd
        refine done_value (v := .int .i64 0) (u := .int .i64 0) (w' := w) ?_ (G.le.refl g) hW rfl hK
        have hfc : (Builtin.firstCells sz 0 (a.eval s)).run P w = .ok #[] w := by
          obtain ⟨hl, us, r', on', hsh⟩ := elems_rel hW (chkA_rel hF h2) hel
          rcases hsh with ⟨q, c, e2, hq⟩ | ⟨s2, e2, _, rfl, _⟩
          · rw [e2]
            cases q <;> simp [Builtin.firstCells, loadCells, loadCellsFrom]
          · rw [e2]
            simp [Builtin.firstCells]
        have hb : (Builtin.copy_ (t :: trest).toArray o.type #[a.eval d, a.eval s]).run P w = .ok (.int .i64 0) w := by
          simp [Builtin.copy_, run_underlying ht, e1, src.lenOf, szOf_run hs]
          have hm : Nat.min m k = 0 := hmin
          rw [hm, hfc]
          simp only [Result.andThen_ok]
          cases q <;> simp [goInt, storeCells]
        simp [execOp, ho, resolve, invoke, builtin]
        rw [hb]
        rfl
    · cases hc
  | makeSlice sz bytes mu zero l' c' =>
    simp only [chkEI] at hc
    split at hc
    · rename_i t l c ho
      simp only [Bool.and_eq_true, decide_eq_true_eq] at hc
      obtain ⟨⟨⟨⟨h1, h2⟩, h3⟩, h30⟩, h4⟩ := hc
      split at h4 <;> (try (cases h4; done))
      rename_i e ht
      split at h4 <;> (try (cases h4; done))
      rename_i i hi
      simp only [Bool.and_eq_true, decide_eq_true_eq] at h4
      obtain ⟨⟨rfl, rfl⟩, h5⟩ := h4
      split at h5 <;> (try (cases h5; done))
      rename_i z hz
      simp only [Bool.and_eq_true, decide_eq_true_eq] at h5
      obtain ⟨hzs, hzl⟩ := h5
      obtain ⟨rz, oz⟩ := chkL_rel g hzl
      simp only [wE] at h
      split at h <;> (try (cases h; done))
      rename_i m k hm hk
      split at h <;> (try (cases h; done))
      rename_i hcond
      obtain ⟨hmk, hroom⟩ := hcond
      have hroom : k * i.bytes ≤ 140737488355328 := by simpa [roomOk] using hroom
      obtain ⟨kd, hu⟩ := idx_rel (chkA_rel hF h1) hm
      obtain ⟨kd2, hu2⟩ := idx_rel (chkA_rel hF h2) hk
      have hk63 : k ≤ 140737488355328 := Nat.le_trans (Nat.le_mul_of_pos_right _ (Nat.pos_of_ne_zero h3)) hroom
      have hbytes : (i.bytes : Int) * (k : Int) ≤ 281474976710656 := by
        have : ((i.bytes * k : Nat) : Int) ≤ 281474976710656 := by rw [Nat.mul_comm]; omega
        rwa [Int.natCast_mul] at this
      have hrun0 := run_make (P := P) w t e i z ht hi hz kd kd2 m k (by omega) (by omega) hbytes (by omega)
      simp only [Int.toNat_natCast] at hrun0
      have hmade : madeCells z.cells (k * i.size) = (Array.range (k * z.cells.size)).map fun j => z.cells[j % z.cells.size]! := by
        rw [hzs]; simp [madeCells, hzs]
      rw [hmade] at hrun0
      have hrun : (execOp a.eval o).run P w = .ok (.value (.slice (some ⟨w.heap.size, 0, none⟩) m k)) (w.alloc (.cells ((Array.range (k * z.cells.size)).map fun j => z.cells[j % z.cells.size]!) e)) := by
        simp only [execOp, ho, hu, hu2, Sem.run_bind, hrun0, Result.andThen_ok]
        rfl
      obtain ⟨r, on⟩ := madeCells_rel rz oz k
      have hzlen : zero.length = i.size := by rw [rz.len]; simpa using hzs
      split at h
      · obtain ⟨rfl, hK⟩ := h
        obtain ⟨g', l', h', rv, _⟩ := new_obj (n := m) (sz := i.size) hW r on e (by rw [r.len]; simp [hzs])
        rw [Array.toArray_toList] at h'
        exact done_value hrun l' h' rv hK
      · split at h
        · rename_i hmk'
          subst hmk'
          obtain ⟨g', l', h', rv⟩ := new_cap (n := m) (sz := i.size) hW r on e (by rw [r.len]; simp [hzs])
          rw [Array.toArray_toList] at h'
          exact done_value hrun l' h' rv h
        · obtain ⟨g1, l1, h1', e1', s1, b1, f1, i1⟩ := new_block hW ((Array.range (k * z.cells.size)).map fun j => z.cells[j % z.cells.size]!) e (0, 0)
          obtain ⟨r2, on2⟩ := madeCells_rel rz oz m
          have hrow : ∀ (j : Nat) (v : Value), ((Array.range (m * z.cells.size)).map fun j => z.cells[j % z.cells.size]!).toList[j]? = some v → ((Array.range (k * z.cells.size)).map fun j => z.cells[j % z.cells.size]!)[0 + j]? = some v := fun j v hv => by
            have hj := (List.getElem?_eq_some_iff.1 hv).1
            simp at hj
            have hjk : j < k * z.cells.size := Nat.lt_of_lt_of_le hj (Nat.mul_le_mul_right _ hmk)
            rw [Nat.zero_add]
            simp [List.getElem?_map, List.getElem?_range hj] at hv
            simp [hjk, hv]
          obtain ⟨g2, l2, h2', r2'⟩ := fin_val (q := 0) (n := m) (sz := i.size) (cap := k) h1' e1' (.inl rfl) s1 b1 f1 (RelL_mono l1 _ _ r2) on2 hrow (fun i _ => i1 i) (by rw [r2.len]; simp [hzs]) hmk (by simp [hzs])
          exact done_value hrun (l1.trans l2) h2' r2' h
    · cases hc
  | makeMap =>
    simp only [chkEI] at hc
    split at hc
    · rename_i t ho
      simp only [wE] at h
      obtain ⟨h', l⟩ := hW.newObj (x := .map [] 0) (o := .map #[] 0) (fun g' _ => ⟨#[], rfl, rfl, fun j e m he => by simp at he⟩)
      refine done_value (v := .map (some S.n)) (u := .map (some w.heap.size)) ?_ l h' ⟨?_, ?_⟩ h
      · simp [execOp, ho, Instr.makeMap]
      · show S.n < g.n + 1; rw [hW.n]; omega
      · show Value.map (some w.heap.size) = .map (some ((if S.n = g.n then (w.heap.size, 0) else g.loc S.n) : Nat × Nat).1)
        rw [if_pos hW.n.symm]
    · cases hc
  | mapSet kk m' k' v' =>
    have hc' : ∃ t m k v, (o.op = .mapUpdate t m k v ∨ o.op = .insert t m k v) ∧ chkA n m m' = true ∧ chkA n k k' = true ∧ chkA n v v' = true ∧ ∃ kt et, P.underlying t = some (.map kt et) ∧ keyKind P kt kk = true := by
      simp only [chkEI] at hc
      split at hc
      · rename_i t m k v ho
        simp only [Bool.and_eq_true] at hc
        obtain ⟨⟨⟨h1, h2⟩, h3⟩, h4⟩ := hc
        split at h4 <;> (try (cases h4; done))
        exact ⟨t, m, k, v, .inl ho, h1, h2, h3, _, _, by assumption, h4⟩
      · rename_i t m k v ho
        simp only [Bool.and_eq_true] at hc
        obtain ⟨⟨⟨h1, h2⟩, h3⟩, h4⟩ := hc
        split at h4 <;> (try (cases h4; done))
        exact ⟨t, m, k, v, .inr ho, h1, h2, h3, _, _, by assumption, h4⟩
      · cases hc
    obtain ⟨t, m, k, v, ho, h1, h2, h3, kt, et, ht, h4⟩ := hc'
    have hex : (execOp a.eval o).run P w = (do Instr.mapUpdate t (a.eval m) (a.eval k) (a.eval v); pure Next.skip : Sem Next).run P w := by
      rcases ho with ho | ho <;> simp only [execOp, ho]
    have km := chkA_rel hF h1
    have kk' := chkA_rel hF h2
    have kv := chkA_rel hF h3
    simp only [wE] at h
    split at h <;> (try (cases h; done))
    rename_i r he
    split at h <;> (try (cases h; done))
    rename_i es c hes
    obtain ⟨hone, hkey, h⟩ := h
    rw [he] at km
    obtain ⟨_, e1⟩ := km
    obtain ⟨ms, hms, hm⟩ := hW.map hes
    have hck := checkKey_run (P := P) h4 false 9999 (a.eval k) w
    have hget := run_getMap (P := P) hms
    split at h <;> (try (cases h; done))
    · rename_i j v0 hfind
      obtain ⟨r', er, hr⟩ := findKey_rel (P := P) h4 kk' hm hfind w
      cases r' with
      | none => exact hr.elim
      | some q' =>
        obtain ⟨j', u0⟩ := q'
        obtain ⟨rfl, hj, _, e0, m0, he0, hm0, _, hke⟩ := hr
        simp only at hj he0 hm0
        obtain ⟨b1, b2, b3, b4, b5⟩ := hm.2 j e0 m0 he0 hm0
        have hsame := key_same kk' b1 hke
        have hm0' : ms[j]? = some m0 := by rw [← Array.getElem?_toList]; exact hm0
        have hstay : (Instr.keyThatStays (((ms[j]?).map (·.key)).getD (a.eval k)) (a.eval k)).run P w = .ok (a.eval k) w := by
          simp [Instr.keyThatStays, hm0', hsame]
        have hset := run_setAny (P := P) (o' := .map (ms.modify j fun e => { e with key := a.eval k, val := a.eval v }) c) hms (fun _ _ _ => by intro hh; cases hh)
        refine done_skip (w' := { w with heap := w.heap.setIfInBounds (g.loc r).1 (.map (ms.modify j fun e => { e with key := a.eval k, val := a.eval v }) c) }) ?_ (G.le.refl g) (hW.setObj hes hms (fun _ _ _ => by intro hh; cases hh) ?_) h
        · rw [hex]
          simp [e1, Instr.mapUpdate, run_underlying ht, hget, hck, er, hstay, hset]
        · refine ⟨_, rfl, by simp [hm.1], fun x e' m' he' hm' => ?_⟩
          simp only [Array.toList_modify] at hm'
          rw [List.getElem?_modify] at he' hm'
          by_cases hx : j = x
          · subst hx
            simp [he0] at he'
            simp [hm0] at hm'
            subst he'; subst hm'
            exact ⟨kk', kv, b3, ⟨kk, hkey⟩, hone⟩
          · simp only [hx, if_false, Option.map_eq_map, Option.map_id_fun', id] at he' hm'
            exact hm.2 x e' m' (by simpa [hx] using he') (by simpa [hx] using hm')
    · rename_i hfind
      obtain ⟨r', er, hr⟩ := findKey_rel (P := P) h4 kk' hm hfind w
      cases r' with
      | some q' => exact hr.elim
      | none =>
        have hset := run_setAny (P := P) (o' := .map (ms.push { key := a.eval k, val := a.eval v, born := c }) (c + 1)) hms (fun _ _ _ => by intro hh; cases hh)
        refine done_skip (w' := { w with heap := w.heap.setIfInBounds (g.loc r).1 (.map (ms.push { key := a.eval k, val := a.eval v, born := c }) (c + 1)) }) ?_ (G.le.refl g) (hW.setObj hes hms (fun _ _ _ => by intro hh; cases hh) ?_) h
        · rw [hex]
          simp [e1, Instr.mapUpdate, run_underlying ht, hget, hck, er, hset]
        · refine ⟨_, rfl, by simp [hm.1], fun x e' m' he' hm' => ?_⟩
          simp only [Array.toList_push] at hm'
          rcases Nat.lt_or_ge x es.length with hx | hx
          · rw [List.getElem?_append_left hx] at he'
            rw [List.getElem?_append_left (by rw [← hm.1]; exact hx)] at hm'
            exact hm.2 x e' m' he' hm'
          · have hxe : x = es.length := by
              have := (List.getElem?_eq_some_iff.1 he').1
              simp at this; omega
            subst hxe
            rw [List.getElem?_append_right (Nat.le_refl _)] at he'
            rw [List.getElem?_append_right (by rw [← hm.1]; exact Nat.le_refl _), ← hm.1] at hm'
            simp at he' hm'
            subst he'; subst hm'
            exact ⟨kk', kv, rfl, ⟨kk, hkey⟩, hone⟩
  | delete kk m' k' =>
    simp only [chkEI] at hc
    split at hc
    · rename_i xs ts ho
      split at hc <;> (try (cases hc; done))
      rename_i m k t trest hxs hts
      simp only [Bool.and_eq_true] at hc
      obtain ⟨⟨h1, h2⟩, h3⟩ := hc
      obtain rfl : xs = #[m, k] := Array.toList_inj.1 hxs
      obtain rfl : ts = (t :: trest).toArray := Array.toList_inj.1 (by simpa using hts)
      split at h3 <;> (try (cases h3; done))
      rename_i kt et ht
      have km := chkA_rel hF h1
      have kk' := chkA_rel hF h2
      have hex : ∀ w', (Builtin.delete_ (t :: trest).toArray o.type #[a.eval m, a.eval k]).run P w = .ok (.tuple #[]) w' → (execOp a.eval o).run P w = .ok (.value (.tuple #[])) w' := fun w' hb => by
        simp [execOp, ho, resolve, invoke, builtin]
        rw [hb]
        rfl
      simp only [wE] at h
      split at h <;> (try (cases h; done))
      · rename_i he
        rw [he] at km
        have e1 : a.eval m = .map none := km
        have hck := checkKey_run (P := P) h3 true 9999 (a.eval k) w
        refine done_value (v := .tup []) (w' := w) (hex w ?_) (G.le.refl g) hW ⟨[], rfl, rfl⟩ h.2
        simp [Builtin.delete_, run_underlying ht, e1, hck]
      · rename_i r he
        split at h <;> (try (cases h; done))
        rename_i es c hes
        obtain ⟨hkey, h⟩ := h
        rw [he] at km
        obtain ⟨_, e1⟩ := km
        obtain ⟨ms, hms, hm⟩ := hW.map hes
        have hck := checkKey_run (P := P) h3 ms.isEmpty 9999 (a.eval k) w
        have hget := run_getMap (P := P) hms
        split at h <;> (try (cases h; done))
        · rename_i j v0 hfind
          obtain ⟨r', er, hr⟩ := findKey_rel (P := P) h3 kk' hm hfind w
          cases r' with
          | none => exact hr.elim
          | some q' =>
            obtain ⟨j', u0⟩ := q'
            obtain ⟨rfl, hj, _⟩ := hr
            simp only at hj
            have hset := run_setAny (P := P) (o' := .map (ms.eraseIdxIfInBounds j) c) hms (fun _ _ _ => by intro hh; cases hh)
            refine done_value (v := .tup []) (w' := { w with heap := w.heap.setIfInBounds (g.loc r).1 (.map (ms.eraseIdxIfInBounds j) c) }) (hex _ ?_) (G.le.refl g) (hW.setObj hes hms (fun _ _ _ => by intro hh; cases hh) ?_) ⟨[], rfl, rfl⟩ h
            · simp [Builtin.delete_, run_underlying ht, e1, hget, hck, er, hset]
            · have hjm : j < ms.size := by have := hm.1; simp at this; omega
              have herase : (ms.eraseIdxIfInBounds j).toList = ms.toList.eraseIdx j := by
                unfold Array.eraseIdxIfInBounds
                rw [dif_pos hjm]
                simp
              refine ⟨_, rfl, by rw [herase, List.length_eraseIdx, List.length_eraseIdx, hm.1], fun x e' m' he' hm' => ?_⟩
              rw [herase] at hm'
              rw [List.getElem?_eraseIdx] at he' hm'
              split at he'
              · rename_i hx
                rw [if_pos hx] at hm'
                exact hm.2 x e' m' he' hm'
              · rename_i hx
                rw [if_neg hx] at hm'
                exact hm.2 (x + 1) e' m' he' hm'
        · rename_i hfind
          obtain ⟨r', er, hr⟩ := findKey_rel (P := P) h3 kk' hm hfind w
          cases r' with
          | some q' => exact hr.elim
          | none =>
            have hset := run_setAny (P := P) (o' := .map ms c) hms (fun _ _ _ => by intro hh; cases hh)
            have hself : ({ w with heap := w.heap.setIfInBounds (g.loc r).1 (.map ms c) } : World) = w := by
              have : w.heap.setIfInBounds (g.loc r).1 (.map ms c) = w.heap := by
                apply Array.ext
                · simp
                · intro x hx1 hx2
                  rw [Array.getElem_setIfInBounds]
                  split
                  · rename_i hxx; subst hxx
                    have := hms
                    rw [Array.getElem?_eq_getElem hx2] at this
                    injection this with this
                    exact this.symm
                  · rfl
              rw [this]
            rw [hself] at hset
            refine done_value (v := .tup []) (w' := w) (hex _ ?_) (G.le.refl g) hW ⟨[], rfl, rfl⟩ h
            simp [Builtin.delete_, run_underlying ht, e1, hget, hck, er, hset]
    · cases hc
  | range x' =>
    simp only [chkEI] at hc
    split at hc
    · rename_i t x ho
      simp only [Bool.and_eq_true] at hc
      obtain ⟨h1, h2⟩ := hc
      split at h2 <;> (try (cases h2; done))
      rename_i kt et ht
      have k := chkA_rel hF h1
      simp only [wE] at h
      have hloc : ∀ x : AObj, ((if S.n = g.n then (w.heap.size, 0) else g.loc S.n) : Nat × Nat).1 = w.heap.size := fun _ => by rw [if_pos hW.n.symm]
      split at h <;> (try (cases h; done))
      · rename_i he
        rw [he] at k
        have e1 : a.eval x = .map none := k
        obtain ⟨h', l⟩ := hW.newObj (x := .iter none 0 [] 0) (o := .mapIter none 0 #[] 0) (fun g' _ => ⟨fun r hr => (by cases hr), rfl⟩)
        refine done_value (v := .iter S.n) (u := .pointer (some ⟨w.heap.size, 0, none⟩)) ?_ l h' ⟨?_, ?_⟩ h
        · simp [execOp, ho, Instr.range, run_underlying ht, e1]
        · show S.n < g.n + 1; rw [hW.n]; omega
        · show Value.pointer (some ⟨w.heap.size, 0, none⟩) = .pointer (some ⟨((if S.n = g.n then (w.heap.size, 0) else g.loc S.n) : Nat × Nat).1, 0, none⟩)
          rw [if_pos hW.n.symm]
      · rename_i r he
        split at h <;> (try (cases h; done))
        rename_i es c hes
        rw [he] at k
        obtain ⟨k1, e1⟩ := k
        obtain ⟨ms, hms, hm⟩ := hW.map hes
        obtain ⟨h', l⟩ := hW.newObj (x := .iter (some r) c [] c) (o := .mapIter (some (g.loc r).1) c #[] c) (fun g' hl => ⟨fun r' hr => by injection hr with hr; subst hr; exact Nat.lt_of_lt_of_le k1 hl.n, by simp [hl.loc r k1]⟩)
        refine done_value (v := .iter S.n) (u := .pointer (some ⟨w.heap.size, 0, none⟩)) ?_ l h' ⟨?_, ?_⟩ h
        · simp [execOp, ho, Instr.range, run_underlying ht, e1, run_getMap hms]
        · show S.n < g.n + 1; rw [hW.n]; omega
        · show Value.pointer (some ⟨w.heap.size, 0, none⟩) = .pointer (some ⟨((if S.n = g.n then (w.heap.size, 0) else g.loc S.n) : Nat × Nat).1, 0, none⟩)
          rw [if_pos hW.n.symm]
    · cases hc
  | next x' =>
    simp only [chkEI] at hc
    split at hc
    · rename_i x ho
      have k := chkA_rel hF hc
      simp only [wE] at h
      split at h <;> (try (cases h; done))
      rename_i j he
      rw [he] at k
      obtain ⟨k1, e1⟩ := k
      split at h <;> (try (cases h; done))
      · rename_i since seen last hit
        obtain ⟨_, _, ob, hob, _, rfl⟩ := hW.hp j _ hit
        have hget := run_getAny (P := P) hob (fun _ _ _ => by intro hh; cases hh)
        refine done_value (v := .tup [.bool false]) (u := .tuple #[.bool false]) (w' := w) ?_ (G.le.refl g) hW ⟨[.bool false], rfl, .bool false, [], rfl, rfl, rfl⟩ h
        simp [execOp, ho, e1, Instr.next, hget]
      · rename_i r since seen last hit
        split at h <;> (try (cases h; done))
        rename_i es c hes
        obtain ⟨rfl, rfl, hborn, hend, hstep⟩ := h
        obtain ⟨_, _, ob, hob, hr, rfl⟩ := hW.hp j _ hit
        obtain ⟨ms, hms, hm⟩ := hW.map hes
        have hget := run_getAny (P := P) hob (fun _ _ _ => by intro hh; cases hh)
        have hgetm := run_getMap (P := P) hms
        have hborn' : ∀ m ∈ ms.toList, m.born < c := fun m hmm => by
          obtain ⟨x, hx⟩ := List.mem_iff_getElem?.1 hmm
          have hxl := (List.getElem?_eq_some_iff.1 hx).1
          have he' : es[x]? = some (es[x]'(by rw [hm.1]; exact hxl)) := List.getElem?_eq_getElem _
          obtain ⟨_, _, b3, _⟩ := hm.2 x _ m he' hx
          rw [b3]
          exact hborn _ (List.getElem_mem _)
        have hguard : (!(seen.toArray).isEmpty && !ms.isEmpty && ms.all fun x => decide (x.born ≥ c)) = false := by
          cases hme : ms.isEmpty with
          | true => simp
          | false =>
            have hne : ms.toList ≠ [] := fun hh => by
              have : ms = #[] := Array.toList_inj.1 hh
              rw [this] at hme; simp at hme
            obtain ⟨m, hmm⟩ := List.exists_mem_of_ne_nil _ hne
            have : ms.all (fun x => decide (x.born ≥ c)) = false := by
              rw [Bool.eq_false_iff]
              intro hall
              rw [← Array.all_toList] at hall
              have := List.all_eq_true.1 hall m hmm
              have := hborn' m hmm
              simp at *
              omega
            simp [this]
        have hold : ∀ (l : Array MapEntry), (∀ m ∈ l.toList, m.born < c) → (l.filter fun m => decide (m.born < c)) = l ∧ (l.filter fun m => decide (m.born ≥ c)) = #[] := fun l hl => by
          constructor
          · rw [Array.filter_eq_self]
            intro m hmm
            simpa using hl m (by simpa using hmm)
          · rw [Array.filter_eq_empty_iff]
            intro m hmm
            have := hl m (by simpa using hmm)
            simp; omega
        have hleft := hold (ms.filter fun m => !seen.toArray.contains m.born) (fun m hmm => hborn' m (by
          have : m ∈ ms.filter fun m => !seen.toArray.contains m.born := by simpa using hmm
          simpa using (Array.mem_filter.1 this).1))
        have hcand : ∀ (w1 : World) (Kk : MapEntry → Sem Value) (ov : Sem Value), True := fun _ _ _ => trivial
        by_cases hemp : (ms.filter fun m => !seen.toArray.contains m.born) = #[]
        · have hall : (es.all fun e => seen.contains e.2.2) = true := by
            rw [List.all_eq_true]
            intro e hee
            obtain ⟨x, hx⟩ := List.mem_iff_getElem?.1 hee
            have hxl := (List.getElem?_eq_some_iff.1 hx).1
            have hm' : ms.toList[x]? = some (ms.toList[x]'(by rw [← hm.1]; exact hxl)) := List.getElem?_eq_getElem _
            obtain ⟨_, _, b3, _⟩ := hm.2 x e _ hx hm'
            rw [Array.filter_eq_empty_iff] at hemp
            have := hemp _ (by simp : ms.toList[x]'(by rw [← hm.1]; exact hxl) ∈ ms)
            rw [b3] at this
            simpa using this
          refine done_value (v := .tup [.bool false]) (u := .tuple #[.bool false]) (w' := w) ?_ (G.le.refl g) hW ⟨[.bool false], rfl, .bool false, [], rfl, rfl, rfl⟩ (hend hall)
          have e0 : (Option.map (fun r => (g.loc r).fst) (some r)) = some (g.loc r).1 := rfl
          simp only [execOp, ho, e1, Instr.next, Sem.run_bind, hget, Result.andThen_ok, e0, hgetm, hguard, Bool.false_eq_true, if_false, Sem.run_pure, hleft.1, hleft.2]
          rw [hemp]
          simp [Question.forced]
        · have hsz : 0 < (ms.filter fun m => !seen.toArray.contains m.born).size := Array.size_pos_iff.2 hemp
          generalize hl : (ms.filter fun m => !seen.toArray.contains m.born) = left at *
          have hmem : ∀ m ∈ left, ∃ (x : Nat) (e : V × V × Nat), es[x]? = some e ∧ ms.toList[x]? = some m ∧ seen.contains e.2.2 = false := fun m hmm => by
            rw [← hl] at hmm
            obtain ⟨h1, h2⟩ := Array.mem_filter.1 hmm
            obtain ⟨x, hx⟩ := List.mem_iff_getElem?.1 (by simpa using h1 : m ∈ ms.toList)
            have hxl := (List.getElem?_eq_some_iff.1 hx).1
            have he' : es[x]? = some (es[x]'(by rw [hm.1]; exact hxl)) := List.getElem?_eq_getElem _
            obtain ⟨_, _, b3, _⟩ := hm.2 x _ m he' hx
            refine ⟨x, _, he', hx, ?_⟩
            rw [← b3]
            simpa using h2
          have fin : ∀ (w1 : World) (m : MapEntry), m ∈ left → (w1 = w ∨ w1 = w.drew) → (execOp a.eval o).run P w = .ok (.value (.tuple #[.bool true, m.key, m.val])) { w1 with heap := w1.heap.setIfInBounds (g.loc j).1 (.mapIter (some (g.loc r).1) c (seen.toArray.push m.born) c) } →
              Done P w0 o a g w K := fun w1 m hmm hw1 hrun => by
            obtain ⟨x, e, he', hx, hns⟩ := hmem m hmm
            obtain ⟨b1, b2, b3, _⟩ := hm.2 x e m he' hx
            have hW1 : RelW w0 g S w1 := by rcases hw1 with rfl | rfl; exact hW; exact hW.drew
            have hob1 : w1.heap[(g.loc j).1]? = some (.mapIter (some (g.loc r).1) c seen.toArray c) := by rcases hw1 with rfl | rfl <;> exact hob
            have hW2 := hW1.setObj hit hob1 (fun _ _ _ => by intro hh; cases hh) (x' := .iter (some r) c (seen ++ [e.2.2]) c) (o' := .mapIter (some (g.loc r).1) c (seen.toArray.push m.born) c) ⟨hr, by rw [b3]; simp⟩
            exact done_value (v := .tup [.bool true, e.1, e.2.1]) hrun (G.le.refl g) hW2 ⟨[.bool true, m.key, m.val], rfl, _, _, rfl, rfl, _, _, rfl, b1, _, _, rfl, b2, rfl⟩ (hstep e (List.mem_of_getElem? he') hns)
          have hne : left.isEmpty = false := by
            rw [Bool.eq_false_iff]; intro hh
            exact hemp (Array.isEmpty_iff.1 hh)
          have hidx : ∀ i, i < left.size → (left.map some)[i]? = some (some (left[i]!)) := fun i hi => by simp [hi]
          by_cases hone : left.size ≤ 1
          · refine fin w (left[0]!) (by rw [getElem!_pos left 0 hsz]; exact Array.getElem_mem hsz) (.inl rfl) ?_
            have hset := run_setAny (P := P) (w := w) (o' := .mapIter (some (g.loc r).1) c (seen.toArray.push (left[0]!).born) c) hob (fun _ _ _ => by intro hh; cases hh)
            have e0 : (Option.map (fun r => (g.loc r).fst) (some r)) = some (g.loc r).1 := rfl
            have hf : (Question.mapNext left.size).forced = true := by simpa [Question.forced] using hone
            simp only [execOp, ho, e1, Instr.next, Sem.run_bind, hget, Result.andThen_ok, e0, hgetm, hguard, Bool.false_eq_true, if_false, Sem.run_pure, hl, hleft.1, hleft.2, hne, Array.append_empty, Array.empty_append, Array.size_map, run_choose_drew, hf, if_true, hidx 0 hsz, hset]
          · have hlt : (Question.mapNext left.size).cut (w.tape w.drawn (Question.mapNext left.size)) < left.size := Nat.mod_lt _ hsz
            generalize hi : (Question.mapNext left.size).cut (w.tape w.drawn (Question.mapNext left.size)) = i at hlt
            refine fin w.drew (left[i]!) (by rw [getElem!_pos left i hlt]; exact Array.getElem_mem hlt) (.inr rfl) ?_
            have hset := run_setAny (P := P) (w := w.drew) (o' := .mapIter (some (g.loc r).1) c (seen.toArray.push (left[i]!).born) c) hob (fun _ _ _ => by intro hh; cases hh)
            have e0 : (Option.map (fun r => (g.loc r).fst) (some r)) = some (g.loc r).1 := rfl
            have hf : (Question.mapNext left.size).forced = false := by
              have : ¬ left.size ≤ 1 := hone
              simpa [Question.forced] using this
            simp only [execOp, ho, e1, Instr.next, Sem.run_bind, hget, Result.andThen_ok, e0, hgetm, hguard, Bool.false_eq_true, if_false, Sem.run_pure, hl, hleft.1, hleft.2, hne, Array.append_empty, Array.empty_append, Array.size_map, run_choose_drew, hf, hi, hidx i hlt, hset]
    · cases hc
  | strBytes x' =>
    simp only [chkEI] at hc
    split at hc
    · rename_i src dst x ho
      simp only [Bool.and_eq_true] at hc
      obtain ⟨h1, h2⟩ := hc
      split at h2 <;> (try (cases h2; done))
      rename_i e hs hd
      split at h2 <;> (try (cases h2; done))
      rename_i he8
      have k := chkA_rel hF h1
      simp only [wE] at h
      split at h <;> (try (cases h; done))
      rename_i s he
      rw [he] at k
      have hrun := run_bytes_of_string (P := P) w src dst e s hs hd he8
      obtain ⟨g1, l1, h1', e1, s1, b1, f1, i1⟩ := new_block hW.drew (bytesRow s (grownCap w s.size 0 e)) e ((bytesRow s (grownCap w s.size 0 e)).size, (bytesRow s (grownCap w s.size 0 e)).size + 1)
      have hcap := grownCap_ge w s.size 0 e
      have hsz : (bytesRow s (grownCap w s.size 0 e)).size = grownCap w s.size 0 e := by
        simp only [bytesRow, Array.size_append, Array.size_map, Array.size_replicate]
        have : s.data.size = s.size := rfl
        omega
      have hr : RelL g1 (s.data.toList.map fun b => V.int .u8 b.toNat) (s.data.toList.map fun b => Value.int .u8 b.toNat) := by
        refine RelL_iff.2 ⟨by simp, fun j c u hc hu => ?_⟩
        simp only [List.getElem?_map, Option.map_eq_some_iff] at hc hu
        obtain ⟨b, hb, rfl⟩ := hc
        obtain ⟨b', hb', rfl⟩ := hu
        rw [hb] at hb'
        injection hb' with hb'; subst hb'
        rfl
      have hon : Ones (s.data.toList.map fun b => Value.int .u8 b.toNat) := fun x hx => by
        obtain ⟨b, _, rfl⟩ := List.mem_map.1 hx
        rfl
      obtain ⟨g2, l2, h2', r2⟩ := fin_val (q := 0) (n := s.size) (sz := 1) (cap := grownCap w s.size 0 e) h1' e1 (.inr (Nat.le_refl _)) s1 b1 f1 hr hon (fun j v hv => by
        simp only [List.getElem?_map, Option.map_eq_some_iff] at hv
        obtain ⟨b, hb, rfl⟩ := hv
        have hj := (List.getElem?_eq_some_iff.1 hb).1
        simp at hj
        rw [Nat.zero_add, bytesRow_at s _ j hj]
        rw [Array.getElem?_toList, Array.getElem?_eq_getElem hj] at hb
        injection hb with hb
        rw [hb]) (fun i _ => i1 i) (by simp) hcap (by rw [hsz]; simp)
      refine done_value ?_ (l1.trans l2) h2' r2 h
      simp only [execOp, ho, rel_str k, Sem.run_bind, hrun, Result.andThen_ok]
      rfl
    · cases hc
  | bytesSame x' =>
    simp only [chkEI] at hc
    split at hc
    · rename_i src dst x ho
      simp only [Bool.and_eq_true, decide_eq_true_eq] at hc
      obtain ⟨⟨h1, rfl⟩, h2⟩ := hc
      split at h2 <;> (try (cases h2; done))
      rename_i e hs
      split at h2 <;> (try (cases h2; done))
      rename_i he8
      have k := chkA_rel hF h1
      simp only [wE] at h
      split at h <;> (try (cases h; done))
      rename_i cs m sz q he
      obtain ⟨hlive, hK⟩ := h
      rw [he] at k
      have k' := k
      obtain ⟨hlen, k⟩ := k
      rcases k with ⟨hh, _⟩ | ⟨_, b, p, cap, us, e1, hc, hr, on, ic, _, htok⟩ | ⟨hh, _⟩
      · cases hh
      rotate_left
      · rcases hh with hh | hh <;> cases hh
      obtain ⟨hq1, hq2, _⟩ := htok q rfl
      obtain ⟨_, hb0, ob, hob, row, ty, fr', rfl, hf, hsz, hfr⟩ := hW.hp q _ hlive
      rw [hq2] at hob hb0
      have hblt : b < w.heap.size := (Array.getElem?_eq_some_iff.1 hob).1
      have hset : S.set q .tok = S := by
        unfold St.set
        have : (fun j => if j = q then some AObj.tok else S.hp j) = S.hp := by
          funext j
          by_cases hj : j = q
          · rw [if_pos hj, hj, hlive]
          · rw [if_neg hj]
        rw [this]
      let fr2 : Nat × Nat := if fr'.1 == fr'.2 then (row.size, row.size + 1) else (min fr'.1 row.size, max fr'.2 (row.size + 1))
      have hfz : (w.freeze { block := b, off := row.size } 1).heap[b]? = some (.cells row ty fr2) := by
        unfold World.freeze
        rw [if_neg (by decide)]
        simp only [Array.getElem?_modify, hob, if_true, Option.map_some]
        obtain ⟨lo, hi⟩ := fr'
        rfl
      have hfar : ∀ x, x ≠ b → (w.freeze { block := b, off := row.size } 1).heap[x]? = w.heap[x]? := fun x hx => by
        unfold World.freeze
        rw [if_neg (by decide)]
        simp only [Array.getElem?_modify]
        rw [if_neg (fun hh => hx hh.symm)]
      have hsz2 : (w.freeze { block := b, off := row.size } 1).heap.size = w.heap.size := by
        unfold World.freeze
        rw [if_neg (by decide)]
        simp
      have hbel : Below w0.heap.size w0 (w.freeze { block := b, off := row.size } 1) := by
        refine hW.below.trans ⟨?_, ?_, ?_, by rw [hsz2]; exact Nat.le_refl _, fun x hx => hfar x (by omega)⟩ <;>
          (unfold World.freeze; rw [if_neg (by decide)])
      have hW' := hW.upd (i := q) (x := .tok) (x' := .tok) hlive hbel hsz2 (fun x _ hx => hfar x (by rw [← hq2]; exact hx)) (o := .cells row ty fr2) (by rw [hq2]; exact hfz) (fun p' u hu => by
        have hold := hW.ice _ p' u hu
        rw [hq2] at hold ⊢
        rw [cell_of_row w b p' row ty fr' hob] at hold
        rw [cell_of_row _ b p' row ty fr2 hfz]
        exact hold) ⟨row, ty, fr2, rfl, by
          show fr2.1 = fr2.2 ∨ row.size ≤ fr2.1
          rcases hf with hf | hf
          · right
            simp only [fr2]
            rw [if_pos (by simpa using hf)]
            exact Nat.le_refl _
          · right
            simp only [fr2]
            split
            · exact Nat.le_refl _
            · show row.size ≤ min fr'.1 row.size
              omega, hsz, hfr⟩
      rw [hset] at hW'
      refine done_value (u := a.eval x) ?_ (G.le.refl g) hW' k' hK
      have hshape : w.shape? b = some (ty, row.size) := by simp [World.shape?, hob]
      simp [execOp, ho, e1, convert, run_underlying hs, run_underlying he8, markStringish, hshape]
    · cases hc
  | frz x' =>
    have hc' : ∃ x, (o.op = .move x ∨ o.op = .assign x) ∧ chkA n x x' = true := by
      simp only [chkEI] at hc
      split at hc
      · exact ⟨_, .inl (by assumption), hc⟩
      · exact ⟨_, .inr (by assumption), hc⟩
      · cases hc
    obtain ⟨x, ho, h1⟩ := hc'
    have hex : (execOp a.eval o).run P w = .ok (.value (a.eval x)) w := by rcases ho with ho | ho <;> simp [execOp, ho]
    have k := chkA_rel hF h1
    simp only [wE] at h
    split at h <;> (try (cases h; done))
    · rename_i q off m sz he
      split at h <;> (try (cases h; done))
      rename_i cs hcs
      obtain ⟨hin, hK⟩ := h
      rw [he] at k
      obtain ⟨_, cap, e1, hc, hb1, hb2⟩ := k
      have hlive := St.cells_hp hcs
      obtain ⟨_, hb0, ob, hob, row, ty, fr', rfl, hf, hs, hni, zs, hrz, onz, hrow⟩ := hW.hp q _ hlive
      have hfree : ∀ j y, (S.kill q).hp j = some y → (g.loc j).1 ≠ (g.loc q).1 := fun j y hy => by
        simp only [St.kill] at hy
        split at hy
        · cases hy
        · rename_i hjq; exact hW.sep j q y _ hy hlive hjq
      obtain ⟨g', l, h', rv⟩ := fin_val (q := (g.loc q).2 + off) (n := m) (sz := sz) (cap := cap) (hW.kill q) hob hf hs hb0 hfree ((hrz.drop off).take (m * sz)) ((onz.drop off).take (m * sz)) (fun j v hv => by
        rw [List.getElem?_take] at hv
        split at hv
        · rw [List.getElem?_drop] at hv
          have := hrow _ v hv
          rwa [← Nat.add_assoc] at this
        · cases hv) (fun i _ => hni i) (by rw [List.length_take, List.length_drop]; omega) hc (by rw [hs]; exact hb2)
      refine done_value hex l h' ?_ hK
      rw [e1]
      exact rv
    · rename_i cs m sz tk he
      rw [he] at k
      exact done_value hex (G.le.refl g) hW k h
end
end Go.VM
