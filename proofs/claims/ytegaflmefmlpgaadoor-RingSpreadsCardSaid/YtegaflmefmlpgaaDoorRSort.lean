/-
  Ring: slices.SortFunc at points: by the shelf's contract.
-/
import Derived.Test.YtegaflmefmlpgaaDoorVmTop
import Derived.Test.YtegaflmefmlpgaaDoorRPlain
import Derived.Test.YtegaflmefmlpgaaDoorVmRow
import Derived.Test.YtegaflmefmlpgaaDoorRLay
import Derived.Shelf.SlSortCmp.WholeK
set_option maxRecDepth 20000
set_option linter.unusedVariables false
set_option linter.unusedSimpArgs false
namespace Go.VM
open Go Go.RowKit Go.Proofs Go.Sort Go.Shelf Go.Lib

def encP (p : Pt) : List Value := [.int .u64 (p.at_ : Nat), .int .i64 (p.sh.val : Nat)]
def cfP (x y : Pt) : Int := if (x.at_ : Int) < y.at_ then -1 else if (x.at_ : Int) > y.at_ then 1 else (x.sh.val : Int) - y.sh.val
theorem ltOf_cfP (x y : Pt) : ltOf cfP x y = ltP x y := by
  unfold ltOf cfP ltP
  by_cases h1 : (x.at_ : Int) < y.at_
  · have : x.at_ < y.at_ := by omega
    simp [h1, this]
  · by_cases h2 : (x.at_ : Int) > y.at_
    · have a : ¬ x.at_ < y.at_ := by omega
      have b : ¬ x.at_ = y.at_ := by omega
      simp [h1, h2, a, b]
    · have a : ¬ x.at_ < y.at_ := by omega
      have b : x.at_ = y.at_ := by omega
      rw [if_neg h1, if_neg h2]
      simp only [a, b, decide_false, Bool.false_or, beq_self_eq_true, Bool.true_and]
      simp
      try omega
theorem ltP_iff (x y : Pt) : ltP x y = true ↔ x.at_ < y.at_ ∨ (x.at_ = y.at_ ∧ x.sh.val < y.sh.val) := by
  unfold ltP
  simp only [Bool.or_eq_true, Bool.and_eq_true, decide_eq_true_eq, beq_iff_eq]
theorem ltP_no (x y : Pt) : ltP x y = false ↔ ¬ (x.at_ < y.at_ ∨ (x.at_ = y.at_ ∧ x.sh.val < y.sh.val)) := by
  rw [← ltP_iff, Bool.not_eq_true]
theorem swoP : SWO (ltOf cfP) where
  irrefl x := by rw [ltOf_cfP, ltP_no]; omega
  trans x y z h1 h2 := by rw [ltOf_cfP, ltP_iff] at *; omega
  ntrans x y z h1 h2 := by rw [ltOf_cfP, ltP_no] at *; omega

set_option maxHeartbeats 1000000 in
theorem closureP (x y : Pt) (W : World) : Calls Tryd.prog 36 #[.agg #[.int .u64 (x.at_ : Nat), .int .i64 (x.sh.val : Nat)], .agg #[.int .u64 (y.at_ : Nat), .int .i64 (y.sh.val : Nat)]] W fun e w' => e = .returned (.int .i64 (cfP x y)) ∧ ∃ q os', w' = grow (W.drewN q) os' := by
  have hw : IntKind.i64.wrap ((x.sh.val : Int) - y.sh.val) = (x.sh.val : Int) - y.sh.val := w64 (by omega) (by omega)
  by_cases h1 : (x.at_ : Int) < y.at_
  · have hc : cfP x y = -1 := if_pos h1
    rw [hc]
    go_enter Tryd.func36, Tryd.ntmps36
    go_wp2
    all_goals go_ret
    all_goals exact ⟨rfl, 0, _, by rw [alloc_eq_grow, alloc_eq_grow, grow_grow]; rfl⟩
  · by_cases h2 : (x.at_ : Int) > y.at_
    · have hc : cfP x y = 1 := by unfold cfP; rw [if_neg h1, if_pos h2]
      rw [hc]
      go_enter Tryd.func36, Tryd.ntmps36
      go_wp2
      all_goals go_ret
      all_goals exact ⟨rfl, 0, _, by rw [alloc_eq_grow, alloc_eq_grow, grow_grow]; rfl⟩
    · have hc : cfP x y = IntKind.i64.wrap ((x.sh.val : Int) - y.sh.val) := by unfold cfP; rw [if_neg h1, if_neg h2, hw]
      rw [hc]
      go_enter Tryd.func36, Tryd.ntmps36
      go_wp2
      all_goals go_ret
      all_goals exact ⟨rfl, 0, _, by rw [alloc_eq_grow, alloc_eq_grow, grow_grow]; rfl⟩
theorem cmpLaysP (blk off size : Nat) (w : World) : CmpLays Tryd.prog 36 #[] encP 2 cfP blk off size w := fun _ _ _ _ x y => closureP x y _

/-- Whatever is laid beside, nothing turns. -/
theorem RelW.other {w0 w : World} {g : G} {S : St} (h : RelW w0 g S w) (o : Obj) : ∃ g', g.le g' ∧ RelW w0 g' S (w.alloc o) ∧ g'.loc = g.loc ∧ g'.n = g.n := by
  have hle := le_block h #[] 0
  refine ⟨g.block #[] 0, hle, ⟨h.below.alloc h.below.size _, by simp [G.block, h.nb], h.n, fun b p u hu => ?_, fun i x hx => ?_, h.sep⟩, rfl, rfl⟩
  · simp only [G.block] at hu
    split at hu
    · split at hu
      · simp at hu
      · cases hu
    · rw [World.cell?_alloc_lt w _ _ (h.iceLt hu)]
      exact h.ice b p u hu
  · obtain ⟨h1, h2, o', h3, h4⟩ := h.hp i x hx
    have hlt := h.lt hx
    refine ⟨h1, h2, o', ?_, h4.mono hle (by rw [h.nb]; exact hlt) (fun p => ?_)⟩
    · show (w.alloc _).heap[(g.loc i).1]? = _
      exact (Below.heap_alloc w _ _ hlt).trans h3
    · simp only [G.block]
      rw [if_neg (by rw [h.nb]; exact Nat.ne_of_lt hlt)]
theorem RelW.grown {w0 : World} {S : St} : ∀ (os : List Obj) {w : World} {g : G}, RelW w0 g S w → ∃ g', g.le g' ∧ RelW w0 g' S (grow w os.toArray) ∧ g'.loc = g.loc ∧ g'.n = g.n
  | [], w, g, h => ⟨g, G.le.refl g, by rw [grow_empty]; exact h, rfl, rfl⟩
  | o :: os, w, g, h => by
    obtain ⟨g1, l1, h1, e1, n1⟩ := h.other o
    obtain ⟨g2, l2, h2, e2, n2⟩ := RelW.grown os h1
    refine ⟨g2, l1.trans l2, ?_, e2.trans e1, n2.trans n1⟩
    rw [alloc_eq_grow, grow_grow] at h2
    have : #[o] ++ os.toArray = (o :: os).toArray := by simp
    rw [this] at h2
    exact h2

theorem relL_pts {g : G} : ∀ {l : List Pt} {us : List Value}, RelL g (l.flatMap Pt.cell) us → us = l.flatMap encP
  | [], us, h => h
  | p :: l, us, h => by
    obtain ⟨u1, r1, rfl, h1, h⟩ := h
    obtain ⟨u2, r2, rfl, h2, h⟩ := h
    have h1 : u1 = _ := h1
    have h2 : u2 = _ := h2
    rw [h1, h2, relL_pts h]
    rfl
theorem pts_relL (g : G) : ∀ l : List Pt, RelL g (l.flatMap Pt.cell) (l.flatMap encP)
  | [] => rfl
  | p :: l => ⟨_, _, rfl, rfl, _, _, rfl, rfl, pts_relL g l⟩
theorem flatK_list (l : List Pt) (t : Nat) (ht : t < l.length * 2) : (l.flatMap encP)[t]? = some (flatK encP 2 l.toArray)[t]! := by
  rw [get_flatK _ _ _ _ (by simpa using ht)]
  have hq : t / 2 < l.length := by omega
  have hx : l[t / 2]? = some (l[t / 2]'hq) := List.getElem?_eq_getElem hq
  have e : (l.flatMap encP)[t / 2 * 2 + t % 2]? = (encP (l[t / 2]'hq) ++ (l.drop (t / 2 + 1)).flatMap encP)[t % 2]? := by
    rw [← fm_at (cell := encP) (sz := 2) (fun _ => rfl) hx, List.getElem?_drop]
  have e2 : t / 2 * 2 + t % 2 = t := by omega
  rw [e2] at e
  rw [e]
  have e3 : l.toArray[t / 2]! = l[t / 2]'hq := by simp [hq]
  rw [e3]
  rcases (show t % 2 = 0 ∨ t % 2 = 1 by omega) with h | h <;> rw [h] <;> rfl

theorem sortPts_runs {w0 : World} {S : St} {Q : AEnd → St → Prop} {v : V} {l : List Pt} {o : Nat} (hv : RowAt S v (l.flatMap Pt.cell) l.length 2 o) (hn : l ≠ []) (hsz : l.length ≤ 1000000)
    (hQ : ∀ (l' : List Pt) (S' : St), l'.Perm l → (∀ (i j : Nat) (p q : Pt), i < j → l'[i]? = some p → l'[j]? = some q → ltP q p = false) → RowAt S' v (l'.flatMap Pt.cell) l'.length 2 o → Keeps (fun j => j = o) S S' → Q (.ret (.tup [])) S') :
    RSim Tryd.prog w0 35 [v, .func 36 [] []] S Q := by
  have h0 : l.length ≠ 0 := fun e => hn (List.eq_nil_of_length_eq_zero e)
  rcases hv with ⟨e, _⟩ | ⟨_, rfl, hc, hcl, hol⟩
  · exact absurd e h0
  refine ⟨⟨_, Tryd.func35, by kernel_rfl, by kernel_rfl⟩, fun g w us hW hrel => ?_⟩
  obtain ⟨u, us', rfl, h1, u2, us2, rfl, h2, hus⟩ := hrel
  have : us2 = [] := hus
  subst this
  obtain ⟨ps, cs, rfl, hps, hcs⟩ := h2
  have : ps = [] := hps
  subst this
  have : cs = [] := hcs
  subst this
  obtain ⟨hon, cap, rfl, hncap, hbnb, hbs⟩ := h1
  obtain ⟨_, hb0, ob, hob, hRO⟩ := hW.hp o _ (hp_cells' hc)
  obtain ⟨usb, tyb, frb, rfl, hfz, husz, hice, xs, hx1, hx2, hx3⟩ : ∃ us ty fr, ob = .cells us ty fr ∧ NoFz fr us.size ∧ us.size = g.bs (g.loc o).1 ∧ (∀ i, g.ice (g.loc o).1 i = none) ∧ ∃ xs, RelL g (l.flatMap Pt.cell) xs ∧ Ones xs ∧ ∀ (j : Nat) (v : Value), xs[j]? = some v → us[(g.loc o).2 + j]? = some v := hRO
  have hxs := relL_pts hx1
  subst hxs
  have hlt : (g.loc o).1 < w.heap.size := (Array.getElem?_eq_some_iff.1 hob).1
  have hH : HoldsK encP 2 w (g.loc o).1 ((g.loc o).2 + 0) l.toArray := by
    intro j hj
    rw [size_flatK] at hj
    have hj : j < l.length * 2 := by simpa using hj
    have h5 := hx3 j _ (flatK_list l j hj)
    refine ⟨?_, ?_⟩
    · rw [cell_of_row _ _ _ _ _ _ hob]; exact h5
    · simp only [World.frozen?, hob]
      have := hfz.at_ ((g.loc o).2 + 0 + j) (Array.getElem?_eq_some_iff.1 h5).1
      simpa using this
  have eg : ∀ args w, (callFunc 36 args).run Tryd.prog w = .ok (.enter 36 args) w := enters_of Tryd.func36 (by kernel_rfl) rfl
  have hcon := AnyQ.slices_SortFunc Tryd.sortPt 2 Tryd.isAgg80 Tryd.sizeOf80 encP (fun _ => rfl) (fun x v hv => by simp [encP] at hv; rcases hv with rfl | rfl <;> rfl) cfP swoP 36 #[] (g.loc o).1 ((g.loc o).2 + 0) cap l.toArray w eg (cmpLaysP _ _ _ _) hH hlt (by simp; omega)
  have hsz' : l.toArray.size = l.length := by simp
  rw [hsz'] at hcon
  refine Calls.mono hcon ?_
  rintro e w' ⟨rfl, d', n, os, hp, hs, rfl⟩
  obtain ⟨p1, _, p3⟩ := hp
  have hdl : d'.size = l.length := by rw [p1]; simp
  have hl' : d'.toList.length = l.length := by simpa using hdl
  have hperm : d'.toList.Perm l := by
    have e1 : (d'.extract 0 l.length).toList = d'.toList := by rw [← hdl, Array.extract_size]
    have e2 : (l.toArray.extract 0 l.length).toList = l := by
      have : l.toArray.extract 0 l.toArray.size = l.toArray := Array.extract_size
      rw [hsz'] at this
      rw [this]
    rw [e1, e2] at p3
    exact p3
  have hget : ∀ (i : Nat) (p : Pt), d'.toList[i]? = some p → d'[i]! = p := fun i p h => by
    have hi := (List.getElem?_eq_some_iff.1 h).1
    rw [Array.getElem?_toList] at h
    have hi' : i < d'.size := by simpa using hi
    rw [getElem!_pos d' i hi']
    rw [Array.getElem?_eq_getElem hi'] at h
    injection h
  have hsorted : ∀ (i j : Nat) (p q : Pt), i < j → d'.toList[i]? = some p → d'.toList[j]? = some q → ltP q p = false := fun i j p q hij hp hq => by
    have hj : j < l.length := by have := (List.getElem?_eq_some_iff.1 hq).1; omega
    have := hs i j (Nat.zero_le _) hij hj
    rw [hget i p hp, hget j q hq, ltOf_cfP] at this
    exact this
  generalize hF : flatK encP 2 d' = F
  have hFs : F.size = l.length * 2 := by rw [← hF, size_flatK, hdl]
  have hFl : ∀ t, t < l.length * 2 → (d'.toList.flatMap encP)[t]? = some F[t]! := fun t ht => by
    have := flatK_list d'.toList t (by rw [hl']; exact ht)
    rw [Array.toArray_toList, hF] at this
    exact this
  -- the world with the row turned
  have hsame : ∀ k, k ≠ (g.loc o).1 → (putRow id (Sort.ahead w n) (g.loc o).1 ((g.loc o).2 + 0) F).heap[k]? = w.heap[k]? := fun k hk => by
    show (w.heap.modify _ _)[k]? = _
    rw [Array.getElem?_modify, if_neg (Ne.symm hk)]
  have hnew : (putRow id (Sort.ahead w n) (g.loc o).1 ((g.loc o).2 + 0) F).heap[(g.loc o).1]? = some (.cells (putCells id ((g.loc o).2 + 0) F usb) tyb frb) := by
    show (w.heap.modify _ _)[(g.loc o).1]? = _
    rw [Array.getElem?_modify, if_pos rfl, hob]
    rfl
  have hsize : (putRow id (Sort.ahead w n) (g.loc o).1 ((g.loc o).2 + 0) F).heap.size = w.heap.size := by rw [Go.Sort.size_putRow]; rfl
  have hbel : Below w0.heap.size w0 (putRow id (Sort.ahead w n) (g.loc o).1 ((g.loc o).2 + 0) F) := by
    have hb := hW.below
    refine ⟨hb.os, hb.tape, hb.output, by rw [hsize]; exact hb.size, fun k hk => ?_⟩
    rw [hsame k (by omega)]
    exact hb.block k hk
  have hput : (putCells id ((g.loc o).2 + 0) F usb).size = usb.size := by simp [putCells]
  have hW1 := hW.upd (x' := .cells (d'.toList.flatMap Pt.cell)) (hp_cells' hc) hbel hsize (fun k _ hk => hsame k hk) hnew (fun p u hu => by rw [hice p] at hu; cases hu)
    ⟨_, _, _, rfl, by rw [hput]; exact hfz, by rw [hput]; exact husz, hice, d'.toList.flatMap encP, pts_relL g _, fun x hx => by
      obtain ⟨q, _, hx⟩ := List.mem_flatMap.1 hx
      simp [encP] at hx
      rcases hx with rfl | rfl <;> rfl, fun j x hx => by
      have hj : j < l.length * 2 := by
        have := (List.getElem?_eq_some_iff.1 hx).1
        rw [fm_len (cell := encP) (sz := 2) (fun _ => rfl), hl'] at this
        exact this
      have h6 := hx3 j _ (flatK_list l j hj)
      have hin := (Array.getElem?_eq_some_iff.1 h6).1
      rw [hFl j hj] at hx
      injection hx with hx
      simp only [putCells, Array.getElem?_mapIdx, h6, Option.map_some, id_eq]
      rw [if_pos (by rw [hFs]; omega), ← hx]
      congr 2
      omega⟩
  obtain ⟨g2, l2, W2, e2, n2⟩ := RelW.grown os.toList hW1
  rw [Array.toArray_toList] at W2
  rw [← hF] at W2
  refine ⟨g2, S.set o (.cells (d'.toList.flatMap Pt.cell)), .ret (.tup []), l2, W2, ⟨[], rfl, rfl⟩, hQ d'.toList _ hperm hsorted ?_ (Keeps.set1 S o _)⟩
  · refine .inr ⟨by rw [hl']; exact h0, by rw [hl'], by rw [cells_setc, if_pos rfl], fm_len Pt.len _, hol⟩
end Go.VM
