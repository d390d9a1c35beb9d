/-
  The document's disk: Rename, Restart. NEWPP
-/
import Derived.Test.YtddjanglghgoeaaDRefE
set_option maxRecDepth 20000
set_option linter.unusedVariables false
set_option linter.unusedSimpArgs false
namespace Go.VM
open Go Go.RowKit Go.Proofs

/-- Where a new name comes: the walk of it. -/
theorem refPlace {w0 : World} {fr : Fr} {S : St} {x o : Nat} {R : RS} {s : List UInt8} {K : CPost} {D : DS} (h : RefAt S x o R) (a : Alike D R) (hl : R.l.length ≤ 1000000) (hno : ∀ f ∈ R.l, f.name ≠ s)
    (f0 : fr 0 = .ptr (some (x, 0))) (f2 : fr 2 = .str (mkS s)) (f9 : fr 9 = .int .i64 0)
    (hK : ∀ fr' k, (∀ i, i < 9 → fr' i = fr i) → fr' 9 = .int .i64 (k : Nat) → k ≤ R.l.length → (∀ g ∈ R.l.take k, g.name < s) → (∀ g ∈ R.l.drop k, s < g.name) → K .normal fr' S) :
    wCode (RSim Try.prog w0) (.loop l_r02_Disk_Rename_0) fr S (blkQ 0 K) := by
  refine loop_rule RSim.le (k := R.l.length) (fun m fr1 S1 => ∃ j : Nat, m = R.l.length - j ∧ j ≤ R.l.length ∧ S1 = S ∧ (∀ i, i < 9 → fr1 i = fr i) ∧ fr1 9 = .int .i64 j ∧ ∀ (i : Nat) (g : RF), i < j → R.l[i]? = some g → g.name < s) ?_
    ⟨0, rfl, Nat.zero_le _, rfl, fun _ _ => rfl, by rw [f9]; rfl, fun i g hi => by omega⟩
  rintro m fr1 S1 ⟨j, hm, hj, rfl, sm, g9, hlt'⟩
  have g0 := (sm 0 (by omega)).trans f0
  have g2 := (sm 2 (by omega)).trans f2
  have hh := h.head
  simp only [RS.cells] at hh
  by_cases hlt : j < R.l.length
  · have hf : R.l[j]? = some (R.l[j]'hlt) := List.getElem?_eq_getElem hlt
    generalize R.l[j]'hlt = f at hf
    obtain ⟨r, hn0, hrow, hcs, _, hd0, _, _⟩ := h.nth hf
    rw [hrow] at hh
    have w1 : IntKind.i64.wrap ((j : Int) + 1) = ((j + 1 : Nat) : Int) := by rw [w64 (by omega) (by omega)]; omega
    have hjt : (j < R.l.length) = True := eq_true hlt
    have hjb : decide ((j : Int) < (R.l.length : Int)) = true := decide_eq_true (by omega)
    simp only [l_r02_Disk_Rename_0, go_sem, Nat.reduceEqDiff, Nat.reduceAdd, Nat.reduceMul, Nat.reduceSub, Nat.reduceLeDiff, Int.reduceBEq, Int.reduceBNe, Int.reduceLT, Int.reduceLE, Int.reduceGT, Int.reduceGE, Int.reduceEq, ↓reduceIte, reduceCtorEq, g0, g2, g9, hh, hjb, hcs, hjt, hd0, List.cons_append, lss_str]
    refine wc_ite (b := decide (f.name < s)) (by simp only [go_sem, Nat.reduceEqDiff, Nat.reduceAdd, Nat.reduceMul, Nat.reduceSub, Nat.reduceLeDiff, Int.reduceBEq, Int.reduceBNe, Int.reduceLT, Int.reduceLE, Int.reduceGT, Int.reduceGE, Int.reduceEq, ↓reduceIte, reduceCtorEq]) (fun hc => ?_) (fun hc => ?_)
    · have hyes : f.name < s := of_decide_eq_true hc
      simp only [go_sem, Nat.reduceEqDiff, Nat.reduceAdd, Nat.reduceMul, Nat.reduceSub, Nat.reduceLeDiff, Int.reduceBEq, Int.reduceBNe, Int.reduceLT, Int.reduceLE, Int.reduceGT, Int.reduceGE, Int.reduceEq, ↓reduceIte, reduceCtorEq, g9, w1]
      refine ⟨R.l.length - (j + 1), by omega, j + 1, rfl, by omega, fun i hi => ?_, by simp only [go_sem, Nat.reduceEqDiff, Nat.reduceAdd, Nat.reduceMul, Nat.reduceSub, Nat.reduceLeDiff, Int.reduceBEq, Int.reduceBNe, Int.reduceLT, Int.reduceLE, Int.reduceGT, Int.reduceGE, Int.reduceEq, ↓reduceIte, reduceCtorEq], fun i g hi hg => ?_⟩
      · try simp only [put_some]
        repeat rw [if_neg (by omega)]
        exact sm i hi
      · rcases Nat.lt_or_ge i j with hi' | hi'
        · exact hlt' i g hi' hg
        · have : i = j := by omega
          subst this
          rw [hf] at hg; injection hg with hg; subst hg
          exact hyes
    · simp only [go_sem, Nat.reduceEqDiff, Nat.reduceAdd, Nat.reduceMul, Nat.reduceSub, Nat.reduceLeDiff, Int.reduceBEq, Int.reduceBNe, Int.reduceLT, Int.reduceLE, Int.reduceGT, Int.reduceGE, Int.reduceEq, ↓reduceIte, reduceCtorEq]
      obtain ⟨p1, p2⟩ := place a hno hlt' (fun g hg => by rw [hf] at hg; injection hg with hg; subst hg; exact of_decide_eq_false hc)
      refine hK _ j (fun i hi => ?_) (by simp only [go_sem, Nat.reduceEqDiff, Nat.reduceAdd, Nat.reduceMul, Nat.reduceSub, Nat.reduceLeDiff, Int.reduceBEq, Int.reduceBNe, Int.reduceLT, Int.reduceLE, Int.reduceGT, Int.reduceGE, Int.reduceEq, ↓reduceIte, reduceCtorEq, g9]) hj p1 p2
      try simp only [put_some]
      repeat rw [if_neg (by omega)]
      exact sm i hi
  · have e : j = R.l.length := by omega
    obtain ⟨p1, p2⟩ := place a hno hlt' (fun g hg => by rw [List.getElem?_eq_none (by omega)] at hg; cases hg)
    have hjb : decide ((j : Int) < (R.l.length : Int)) = false := decide_eq_false (by omega)
    have fin : ∀ fr2 : Fr, (∀ i, i < 9 → fr2 i = fr1 i) → fr2 9 = .int .i64 (j : Nat) → K .normal fr2 S1 := fun fr2 h2 h9 => hK fr2 j (fun i hi => (h2 i hi).trans (sm i hi)) h9 hj p1 p2
    by_cases h0 : R.l.length = 0
    · rw [h0] at hjb
      simp only [rowV, h0] at hh
      simp only [l_r02_Disk_Rename_0, go_sem, Nat.reduceEqDiff, Nat.reduceAdd, Nat.reduceMul, Nat.reduceSub, Nat.reduceLeDiff, Int.reduceBEq, Int.reduceBNe, Int.reduceLT, Int.reduceLE, Int.reduceGT, Int.reduceGE, Int.reduceEq, ↓reduceIte, reduceCtorEq, g0, g2, g9, hh, hjb]
      refine wc_ite (b := false) (by simp only [go_sem, Nat.reduceEqDiff, Nat.reduceAdd, Nat.reduceMul, Nat.reduceSub, Nat.reduceLeDiff, Int.reduceBEq, Int.reduceBNe, Int.reduceLT, Int.reduceLE, Int.reduceGT, Int.reduceGE, Int.reduceEq, ↓reduceIte, reduceCtorEq] <;> rfl) (fun h => by cases h) (fun _ => ?_)
      simp only [go_sem, Nat.reduceEqDiff, Nat.reduceAdd, Nat.reduceMul, Nat.reduceSub, Nat.reduceLeDiff, Int.reduceBEq, Int.reduceBNe, Int.reduceLT, Int.reduceLE, Int.reduceGT, Int.reduceGE, Int.reduceEq, ↓reduceIte, reduceCtorEq]
      exact fin _ (fun i hi => by (try simp only [put_some]); repeat rw [if_neg (by omega)]) (by simp only [go_sem, Nat.reduceEqDiff, Nat.reduceAdd, Nat.reduceMul, Nat.reduceSub, Nat.reduceLeDiff, Int.reduceBEq, Int.reduceBNe, Int.reduceLT, Int.reduceLE, Int.reduceGT, Int.reduceGE, Int.reduceEq, ↓reduceIte, reduceCtorEq, g9])
    · simp only [rowV, h0] at hh
      simp only [l_r02_Disk_Rename_0, go_sem, Nat.reduceEqDiff, Nat.reduceAdd, Nat.reduceMul, Nat.reduceSub, Nat.reduceLeDiff, Int.reduceBEq, Int.reduceBNe, Int.reduceLT, Int.reduceLE, Int.reduceGT, Int.reduceGE, Int.reduceEq, ↓reduceIte, reduceCtorEq, g0, g2, g9, hh, hjb]
      refine wc_ite (b := false) (by simp only [go_sem, Nat.reduceEqDiff, Nat.reduceAdd, Nat.reduceMul, Nat.reduceSub, Nat.reduceLeDiff, Int.reduceBEq, Int.reduceBNe, Int.reduceLT, Int.reduceLE, Int.reduceGT, Int.reduceGE, Int.reduceEq, ↓reduceIte, reduceCtorEq] <;> rfl) (fun h => by cases h) (fun _ => ?_)
      simp only [go_sem, Nat.reduceEqDiff, Nat.reduceAdd, Nat.reduceMul, Nat.reduceSub, Nat.reduceLeDiff, Int.reduceBEq, Int.reduceBNe, Int.reduceLT, Int.reduceLE, Int.reduceGT, Int.reduceGE, Int.reduceEq, ↓reduceIte, reduceCtorEq]
      exact fin _ (fun i hi => by (try simp only [put_some]); repeat rw [if_neg (by omega)]) (by simp only [go_sem, Nat.reduceEqDiff, Nat.reduceAdd, Nat.reduceMul, Nat.reduceSub, Nat.reduceLeDiff, Int.reduceBEq, Int.reduceBNe, Int.reduceLT, Int.reduceLE, Int.reduceGT, Int.reduceGE, Int.reduceEq, ↓reduceIte, reduceCtorEq, g9])

theorem renF_mem {D : DS} (hn : (D.files.map (·.name)).Nodup) {s t : List UInt8} {y : File} (hy : y.name = t) : ∀ z, z ∈ putF y (delF t (delF s D.files)) ↔ z ∈ putF y (delF s D.files) := by
  have n1 : ((delF s D.files).map (·.name)).Nodup := nd_del' hn
  have n2 : ((delF t (delF s D.files)).map (·.name)).Nodup := nd_del' n1
  intro z
  rw [mem_putF n2, mem_putF n1, mem_delF n1, hy]
  refine or_congr Iff.rfl ⟨fun h => ⟨h.1.1, h.2⟩, fun h => ⟨⟨h.1, h.2⟩, h.2⟩⟩

/-- The row that is made: a name more, in its place. -/
theorem refInsert {w0 : World} {fr : Fr} {S : St} {Q : AEnd → St → Prop} {x o b k : Nat} {R : RS} {s : List UInt8} {f : RF} (h : RefAt S x o R) (hl : R.l.length ≤ 1000000) (hk : k ≤ R.l.length) (hv : IsBytes f.v f.p)
    (f0 : fr 0 = .ptr (some (x, 0))) (f2 : fr 2 = .str (mkS s)) (f8 : fr 8 = .ptr (some (b, 0))) (f9 : fr 9 = .int .i64 (k : Nat)) (hb : S.cells b = some f.cell) (hbl : b < S.n)
    (hQ : ∀ S' o', RAfter S x o R S' o' { R with l := R.l.take k ++ ⟨s, f.v, f.p, f.sure⟩ :: R.l.drop k } → Q (.ret (.int .i64 0)) S') :
    wCode (RSim Try.prog w0) s_r02_Disk_Rename_0 fr S (resQ [.tmp 6] Q) := by
  have hh := h.head
  simp only [RS.cells] at hh
  obtain ⟨va, sa, ea⟩ := h.rowAt.cut_hi hk 79
  simp only [s_r02_Disk_Rename_0, go_sem, Nat.reduceEqDiff, Nat.reduceAdd, Nat.reduceMul, Nat.reduceSub, Nat.reduceLeDiff, Int.reduceBEq, Int.reduceBNe, Int.reduceLT, Int.reduceLE, Int.reduceGT, Int.reduceGE, Int.reduceEq, ↓reduceIte, reduceCtorEq, f0, f9, hh, sa]
  refine wi_append_row (v := .sl [] 0 3 .nil) (o := 0) (by simp only [go_sem, Nat.reduceEqDiff, Nat.reduceAdd, Nat.reduceMul, Nat.reduceSub, Nat.reduceLeDiff, Int.reduceBEq, Int.reduceBNe, Int.reduceLT, Int.reduceLE, Int.reduceGT, Int.reduceGE, Int.reduceEq, ↓reduceIte, reduceCtorEq]) (RowAt.nil _ _ _) (by simp only [go_sem, Nat.reduceEqDiff, Nat.reduceAdd, Nat.reduceMul, Nat.reduceSub, Nat.reduceLeDiff, Int.reduceBEq, Int.reduceBNe, Int.reduceLT, Int.reduceLE, Int.reduceGT, Int.reduceGE, Int.reduceEq, ↓reduceIte, reduceCtorEq]; exact ea) (by rw [List.length_take, fm_len RF.len]; exact Nat.min_eq_left (Nat.mul_le_mul_right _ hk)) (by simp [roomOk]; omega) fun v1 S1 o1 hv1 ho1 k1 => ?_
  have k1' : Keeps (fun _ => False) S S1 := k1.mono fun _ _ e => e.1 rfl
  have hb1 := k1'.cells hb hbl id
  simp only [RF.cell] at hb1
  simp only [go_sem, Nat.reduceEqDiff, Nat.reduceAdd, Nat.reduceMul, Nat.reduceSub, Nat.reduceLeDiff, Int.reduceBEq, Int.reduceBNe, Int.reduceLT, Int.reduceLE, Int.reduceGT, Int.reduceGE, Int.reduceEq, ↓reduceIte, reduceCtorEq, f2, f8, hb1, hv.one, hv.cells1, V.cells_agg]
  rw [List.nil_append, Nat.zero_add] at hv1
  refine wi_append_row (v := v1) (xs := [.str (mkS s), f.v, .int .i64 f.sure]) (m := 1) (by simp only [go_sem, Nat.reduceEqDiff, Nat.reduceAdd, Nat.reduceMul, Nat.reduceSub, Nat.reduceLeDiff, Int.reduceBEq, Int.reduceBNe, Int.reduceLT, Int.reduceLE, Int.reduceGT, Int.reduceGE, Int.reduceEq, ↓reduceIte, reduceCtorEq]) hv1 (by simp only [go_sem, Nat.reduceEqDiff, Nat.reduceAdd, Nat.reduceMul, Nat.reduceSub, Nat.reduceLeDiff, Int.reduceBEq, Int.reduceBNe, Int.reduceLT, Int.reduceLE, Int.reduceGT, Int.reduceGE, Int.reduceEq, ↓reduceIte, reduceCtorEq, V.elems, reduceCtorEq, if_false]) rfl (by simp [roomOk]; omega) fun v2 S2 o2 hv2 ho2 k2 => ?_
  have k2' : Keeps (fun _ => False) S S2 := k1'.trans k2 fun q hq e => by
    have := ho1 (by omega); have := e.2; omega
  have h2 := h.stay k2'
  have hh2 := h2.head
  simp only [RS.cells] at hh2
  obtain ⟨vc, sc, ec⟩ := h2.rowAt.cut_lo hk 96
  simp only [go_sem, Nat.reduceEqDiff, Nat.reduceAdd, Nat.reduceMul, Nat.reduceSub, Nat.reduceLeDiff, Int.reduceBEq, Int.reduceBNe, Int.reduceLT, Int.reduceLE, Int.reduceGT, Int.reduceGE, Int.reduceEq, ↓reduceIte, reduceCtorEq, f0, f9, hh2, sc]
  refine wi_append_row (v := v2) (by simp only [go_sem, Nat.reduceEqDiff, Nat.reduceAdd, Nat.reduceMul, Nat.reduceSub, Nat.reduceLeDiff, Int.reduceBEq, Int.reduceBNe, Int.reduceLT, Int.reduceLE, Int.reduceGT, Int.reduceGE, Int.reduceEq, ↓reduceIte, reduceCtorEq]) hv2 (by simp only [go_sem, Nat.reduceEqDiff, Nat.reduceAdd, Nat.reduceMul, Nat.reduceSub, Nat.reduceLeDiff, Int.reduceBEq, Int.reduceBNe, Int.reduceLT, Int.reduceLE, Int.reduceGT, Int.reduceGE, Int.reduceEq, ↓reduceIte, reduceCtorEq]; exact ec) (by rw [List.length_drop, fm_len RF.len, ← Nat.sub_mul]) (by simp [roomOk]; omega) fun v3 S3 o3 hv3 ho3 k3 => ?_
  have k3' : Keeps (fun _ => False) S S3 := k2'.trans k3 fun q hq e => by
    have := ho2 (by omega); have := k1'.n; have := e.2; omega
  have e3 : (R.l.flatMap RF.cell).take (k * 3) ++ [.str (mkS s), f.v, .int .i64 f.sure] ++ (R.l.flatMap RF.cell).drop (k * 3) = (R.l.take k ++ (⟨s, f.v, f.p, f.sure⟩ : RF) :: R.l.drop k).flatMap RF.cell := by
    rw [fm_take RF.len, fm_drop RF.len, List.flatMap_append, List.flatMap_cons, List.append_assoc]
    rfl
  have n3 : k + 1 + (R.l.length - k) = (R.l.take k ++ (⟨s, f.v, f.p, f.sure⟩ : RF) :: R.l.drop k).length := by
    rw [List.length_append, List.length_cons, List.length_take, List.length_drop]; omega
  rw [e3, n3] at hv3
  have hnew : S.n ≤ o3 := by have := ho3 (by omega); have := k2'.n; omega
  obtain ⟨hc3, hr3, hvv⟩ := h.put (p := fun _ => False) k3' id hv3 (fun _ => by have := h.lt; omega) (fun g hg => by
    rcases List.mem_append.1 hg with hg | hg
    · exact h.ok g (List.mem_of_mem_take hg)
    · rcases List.mem_cons.1 hg with rfl | hg
      · exact hv
      · exact h.ok g (List.mem_of_mem_drop hg))
  have hq := hQ _ o3 ⟨hr3, (k3'.mono fun _ _ e => e.elim).set (.inl (.inl rfl)) _, fun j hj => hj.elim (fun e => .inl (.inl e)) fun e => .inr (e.2 ▸ hnew)⟩
  simp only [RS.cells] at hc3
  simp only [go_sem, Nat.reduceEqDiff, Nat.reduceAdd, Nat.reduceMul, Nat.reduceSub, Nat.reduceLeDiff, Int.reduceBEq, Int.reduceBNe, Int.reduceLT, Int.reduceLE, Int.reduceGT, Int.reduceGE, Int.reduceEq, ↓reduceIte, reduceCtorEq, f0, hc3, RS.cells, hv3.one, hv3.own]
  rw [hvv]
  exact hq

theorem rename_bad {D : DS} {s t : List UInt8} (h : nameOk s = false ∨ nameOk t = false ∨ s = t) : D.rename s t = (1, D) := by
  unfold DS.rename
  by_cases h1 : nameOk s = false ∨ nameOk t = false
  · rw [if_pos h1]
  · rw [if_neg h1, if_pos]
    rcases h with h | h | h
    · exact absurd (.inl h) h1
    · exact absurd (.inr h) h1
    · exact h
theorem refRename_runs {w0 : World} {S : St} {Q : AEnd → St → Prop} {x o : Nat} {R : RS} {D : DS} {s t : List UInt8} (h : RefAt S x o R) (a : Alike D R) (hn : (D.files.map (·.name)).Nodup) (hl : R.l.length ≤ 1000000) (hs : s.length ≤ 1000000000000000) (ht : t.length ≤ 1000000000000000)
    (hQ : ∀ S' o' R', RAfter S x o R S' o' R' → Alike (D.rename s t).2 R' → Q (.ret (.int .i64 (D.rename s t).1)) S') : RSim Try.prog w0 n_r02_Disk_Rename [.ptr (some (x, 0)), .str (mkS s), .str (mkS t)] S Q := by
  refine RSim.run mixed k_r02_Disk_Rename ?_ (by simp)
  simp only [b_r02_Disk_Rename, go_sem, Nat.reduceEqDiff, Nat.reduceAdd, Nat.reduceMul, Nat.reduceSub, Nat.reduceLeDiff, Int.reduceBEq, Int.reduceBNe, Int.reduceLT, Int.reduceLE, Int.reduceGT, Int.reduceGE, Int.reduceEq, ↓reduceIte, reduceCtorEq]
  refine wi_call ?_
  simp only [go_sem, Nat.reduceEqDiff, Nat.reduceAdd, Nat.reduceMul, Nat.reduceSub, Nat.reduceLeDiff, Int.reduceBEq, Int.reduceBNe, Int.reduceLT, Int.reduceLE, Int.reduceGT, Int.reduceGE, Int.reduceEq, ↓reduceIte, reduceCtorEq]
  refine refName_runs hs ?_
  cases hns : nameOk s
  · rw [rename_bad (.inl hns)] at hQ
    simp only [go_sem, Nat.reduceEqDiff, Nat.reduceAdd, Nat.reduceMul, Nat.reduceSub, Nat.reduceLeDiff, Int.reduceBEq, Int.reduceBNe, Int.reduceLT, Int.reduceLE, Int.reduceGT, Int.reduceGE, Int.reduceEq, ↓reduceIte, reduceCtorEq]
    refine wc_ite (b := true) (by simp only [go_sem, Nat.reduceEqDiff, Nat.reduceAdd, Nat.reduceMul, Nat.reduceSub, Nat.reduceLeDiff, Int.reduceBEq, Int.reduceBNe, Int.reduceLT, Int.reduceLE, Int.reduceGT, Int.reduceGE, Int.reduceEq, ↓reduceIte, reduceCtorEq] <;> rfl) (fun _ => ?_) (fun h => by cases h)
    simp only [go_sem, Nat.reduceEqDiff, Nat.reduceAdd, Nat.reduceMul, Nat.reduceSub, Nat.reduceLeDiff, Int.reduceBEq, Int.reduceBNe, Int.reduceLT, Int.reduceLE, Int.reduceGT, Int.reduceGE, Int.reduceEq, ↓reduceIte, reduceCtorEq]
    exact hQ S o R (RAfter.refl h) a
  simp only [go_sem, Nat.reduceEqDiff, Nat.reduceAdd, Nat.reduceMul, Nat.reduceSub, Nat.reduceLeDiff, Int.reduceBEq, Int.reduceBNe, Int.reduceLT, Int.reduceLE, Int.reduceGT, Int.reduceGE, Int.reduceEq, ↓reduceIte, reduceCtorEq]
  refine wi_call ?_
  simp only [go_sem, Nat.reduceEqDiff, Nat.reduceAdd, Nat.reduceMul, Nat.reduceSub, Nat.reduceLeDiff, Int.reduceBEq, Int.reduceBNe, Int.reduceLT, Int.reduceLE, Int.reduceGT, Int.reduceGE, Int.reduceEq, ↓reduceIte, reduceCtorEq]
  refine refName_runs ht ?_
  cases hnt : nameOk t
  · rw [rename_bad (.inr (.inl hnt))] at hQ
    simp only [go_sem, Nat.reduceEqDiff, Nat.reduceAdd, Nat.reduceMul, Nat.reduceSub, Nat.reduceLeDiff, Int.reduceBEq, Int.reduceBNe, Int.reduceLT, Int.reduceLE, Int.reduceGT, Int.reduceGE, Int.reduceEq, ↓reduceIte, reduceCtorEq]
    refine wc_ite (b := true) (by simp only [go_sem, Nat.reduceEqDiff, Nat.reduceAdd, Nat.reduceMul, Nat.reduceSub, Nat.reduceLeDiff, Int.reduceBEq, Int.reduceBNe, Int.reduceLT, Int.reduceLE, Int.reduceGT, Int.reduceGE, Int.reduceEq, ↓reduceIte, reduceCtorEq] <;> rfl) (fun _ => ?_) (fun h => by cases h)
    simp only [go_sem, Nat.reduceEqDiff, Nat.reduceAdd, Nat.reduceMul, Nat.reduceSub, Nat.reduceLeDiff, Int.reduceBEq, Int.reduceBNe, Int.reduceLT, Int.reduceLE, Int.reduceGT, Int.reduceGE, Int.reduceEq, ↓reduceIte, reduceCtorEq]
    exact hQ S o R (RAfter.refl h) a
  by_cases hst : s = t
  · rw [rename_bad (.inr (.inr hst))] at hQ
    simp only [go_sem, Nat.reduceEqDiff, Nat.reduceAdd, Nat.reduceMul, Nat.reduceSub, Nat.reduceLeDiff, Int.reduceBEq, Int.reduceBNe, Int.reduceLT, Int.reduceLE, Int.reduceGT, Int.reduceGE, Int.reduceEq, ↓reduceIte, reduceCtorEq, hst]
    refine wc_ite (b := true) (by simp only [go_sem, Nat.reduceEqDiff, Nat.reduceAdd, Nat.reduceMul, Nat.reduceSub, Nat.reduceLeDiff, Int.reduceBEq, Int.reduceBNe, Int.reduceLT, Int.reduceLE, Int.reduceGT, Int.reduceGE, Int.reduceEq, ↓reduceIte, reduceCtorEq] <;> rfl) (fun _ => ?_) (fun h => by cases h)
    simp only [go_sem, Nat.reduceEqDiff, Nat.reduceAdd, Nat.reduceMul, Nat.reduceSub, Nat.reduceLeDiff, Int.reduceBEq, Int.reduceBNe, Int.reduceLT, Int.reduceLE, Int.reduceGT, Int.reduceGE, Int.reduceEq, ↓reduceIte, reduceCtorEq]
    exact hQ S o R (RAfter.refl h) a
  have hde : D.rename s t = if D.off = false ∧ (∃ x, findF s D.files = some x ∧ x.sure < x.p.length) then (12, D) else D.change s (renF s t) := by
    unfold DS.rename
    rw [if_neg (by simp [hns, hnt]), if_neg hst]
  rw [hde] at hQ
  simp only [go_sem, Nat.reduceEqDiff, Nat.reduceAdd, Nat.reduceMul, Nat.reduceSub, Nat.reduceLeDiff, Int.reduceBEq, Int.reduceBNe, Int.reduceLT, Int.reduceLE, Int.reduceGT, Int.reduceGE, Int.reduceEq, ↓reduceIte, reduceCtorEq, hst]
  refine wc_ite (b := false) (by simp only [go_sem, Nat.reduceEqDiff, Nat.reduceAdd, Nat.reduceMul, Nat.reduceSub, Nat.reduceLeDiff, Int.reduceBEq, Int.reduceBNe, Int.reduceLT, Int.reduceLE, Int.reduceGT, Int.reduceGE, Int.reduceEq, ↓reduceIte, reduceCtorEq] <;> rfl) (fun h => by cases h) (fun _ => ?_)
  simp only [go_sem, Nat.reduceEqDiff, Nat.reduceAdd, Nat.reduceMul, Nat.reduceSub, Nat.reduceLeDiff, Int.reduceBEq, Int.reduceBNe, Int.reduceLT, Int.reduceLE, Int.reduceGT, Int.reduceGE, Int.reduceEq, ↓reduceIte, reduceCtorEq]
  refine wi_call ?_
  simp only [go_sem, Nat.reduceEqDiff, Nat.reduceAdd, Nat.reduceMul, Nat.reduceSub, Nat.reduceLeDiff, Int.reduceBEq, Int.reduceBNe, Int.reduceLT, Int.reduceLE, Int.reduceGT, Int.reduceGE, Int.reduceEq, ↓reduceIte, reduceCtorEq]
  refine refThere_runs h hl hs (fun j f hnm ho hf hfs hno => ?_) fun hno => ?_
  · have hx : findF s D.files = some f.file := findF_of hn ((a.mem _).1 (List.mem_map.2 ⟨f, List.mem_of_getElem? hf, rfl⟩)) hfs
    have ho' : D.off = false := a.off ▸ ho
    have hv := h.ok f (List.mem_of_getElem? hf)
    have hL' := (hv.into S (fun _ => False)).len
    simp only [aF, Arg.ev] at hL'
    have hh := h.head
    simp only [RS.cells] at hh
    obtain ⟨r, hn0, hrow, hcs, hjl, hd0, hd1, _⟩ := h.nth hf
    rw [hrow] at hh
    have hjt : (j < R.l.length) = True := eq_true hjl
    have hrl : (3 ≤ r.length + 1 + 1 + 1) = True := eq_true (by omega)
    simp only [go_sem, Nat.reduceEqDiff, Nat.reduceAdd, Nat.reduceMul, Nat.reduceSub, Nat.reduceLeDiff, Int.reduceBEq, Int.reduceBNe, Int.reduceLT, Int.reduceLE, Int.reduceGT, Int.reduceGE, Int.reduceEq, ↓reduceIte, reduceCtorEq]
    refine wc_ite (b := false) (by simp only [go_sem, Nat.reduceEqDiff, Nat.reduceAdd, Nat.reduceMul, Nat.reduceSub, Nat.reduceLeDiff, Int.reduceBEq, Int.reduceBNe, Int.reduceLT, Int.reduceLE, Int.reduceGT, Int.reduceGE, Int.reduceEq, ↓reduceIte, reduceCtorEq] <;> rfl) (fun h => by cases h) (fun _ => ?_)
    simp only [go_sem, Nat.reduceEqDiff, Nat.reduceAdd, Nat.reduceMul, Nat.reduceSub, Nat.reduceLeDiff, Int.reduceBEq, Int.reduceBNe, Int.reduceLT, Int.reduceLE, Int.reduceGT, Int.reduceGE, Int.reduceEq, ↓reduceIte, reduceCtorEq]
    -- the file, in a cell of its own
    have rest : ∀ (fr : Fr) (S1 : St) (b : Nat), fr 0 = .ptr (some (x, 0)) → fr 1 = .str (mkS s) → fr 2 = .str (mkS t) → fr 8 = .ptr (some (b, 0)) → S1.cells b = some f.cell → b < S1.n → S.n ≤ b → Keeps (fun _ => False) S S1 → ¬ f.sure < f.p.length →
        wCode (RSim Try.prog w0) r_r02_Disk_Rename_0 fr S1 (resQ [.tmp 6] Q) := by
      intro fr S1 b f0 f1 f2 f8 hb hbl hbn k1 hge
      have h1 := h.stay k1
      · rw [if_neg (by
          rintro ⟨_, y, hy, hlt⟩
          rw [hx] at hy; injection hy with hy; subst hy
          exact hge hlt), change_yesR a hn _ hnm ho hf hfs] at hQ
        simp only [r_r02_Disk_Rename_0, go_sem, Nat.reduceEqDiff, Nat.reduceAdd, Nat.reduceMul, Nat.reduceSub, Nat.reduceLeDiff, Int.reduceBEq, Int.reduceBNe, Int.reduceLT, Int.reduceLE, Int.reduceGT, Int.reduceGE, Int.reduceEq, ↓reduceIte, reduceCtorEq, f0]
        refine wi_call ?_
        simp only [go_sem, Nat.reduceEqDiff, Nat.reduceAdd, Nat.reduceMul, Nat.reduceSub, Nat.reduceLeDiff, Int.reduceBEq, Int.reduceBNe, Int.reduceLT, Int.reduceLE, Int.reduceGT, Int.reduceGE, Int.reduceEq, ↓reduceIte, reduceCtorEq]
        refine refOp_runs h1 ho fun S2 h2 k2 => ?_
        have A2 : RAfter S x o R S2 o R.begun := ⟨h2, (k1.mono (fun _ _ e => e.elim)).trans (o' := fun j => j = x) k2 fun j _ e => .inl e, fun j hj => .inl hj⟩
        simp only [go_sem, Nat.reduceEqDiff, Nat.reduceAdd, Nat.reduceMul, Nat.reduceSub, Nat.reduceLeDiff, Int.reduceBEq, Int.reduceBNe, Int.reduceLT, Int.reduceLE, Int.reduceGT, Int.reduceGE, Int.reduceEq, ↓reduceIte, reduceCtorEq]
        refine wc_ite (b := R.begun.off) (by simp only [go_sem, Nat.reduceEqDiff, Nat.reduceAdd, Nat.reduceMul, Nat.reduceSub, Nat.reduceLeDiff, Int.reduceBEq, Int.reduceBNe, Int.reduceLT, Int.reduceLE, Int.reduceGT, Int.reduceGE, Int.reduceEq, ↓reduceIte, reduceCtorEq]) (fun hc => ?_) (fun hc => ?_)
        · simp only [go_sem, Nat.reduceEqDiff, Nat.reduceAdd, Nat.reduceMul, Nat.reduceSub, Nat.reduceLeDiff, Int.reduceBEq, Int.reduceBNe, Int.reduceLT, Int.reduceLE, Int.reduceGT, Int.reduceGE, Int.reduceEq, ↓reduceIte, reduceCtorEq]
          rw [if_pos (by rw [← begun_off a]; exact hc)] at hQ
          exact hQ S2 o _ A2 a.begun
        · rw [if_neg (by rw [← begun_off a, hc]; simp)] at hQ
          simp only [go_sem, Nat.reduceEqDiff, Nat.reduceAdd, Nat.reduceMul, Nat.reduceSub, Nat.reduceLeDiff, Int.reduceBEq, Int.reduceBNe, Int.reduceLT, Int.reduceLE, Int.reduceGT, Int.reduceGE, Int.reduceEq, ↓reduceIte, reduceCtorEq, f0, f1]
          refine wi_call ?_
          simp only [go_sem, Nat.reduceEqDiff, Nat.reduceAdd, Nat.reduceMul, Nat.reduceSub, Nat.reduceLeDiff, Int.reduceBEq, Int.reduceBNe, Int.reduceLT, Int.reduceLE, Int.reduceGT, Int.reduceGE, Int.reduceEq, ↓reduceIte, reduceCtorEq]
          refine refDrop_runs h2 hl fun S3 o3 h3 k3 ho3 => ?_
          have A3 := A2.trans (RAfter.dropped h3 k3 ho3)
          have a3 := a.begun.drop (by exact hn) s (u := D.used)
          simp only [go_sem, Nat.reduceEqDiff, Nat.reduceAdd, Nat.reduceMul, Nat.reduceSub, Nat.reduceLeDiff, Int.reduceBEq, Int.reduceBNe, Int.reduceLT, Int.reduceLE, Int.reduceGT, Int.reduceGE, Int.reduceEq, ↓reduceIte, reduceCtorEq, f0, f2]
          refine wi_call ?_
          simp only [go_sem, Nat.reduceEqDiff, Nat.reduceAdd, Nat.reduceMul, Nat.reduceSub, Nat.reduceLeDiff, Int.reduceBEq, Int.reduceBNe, Int.reduceLT, Int.reduceLE, Int.reduceGT, Int.reduceGE, Int.reduceEq, ↓reduceIte, reduceCtorEq]
          refine refDrop_runs h3 (Nat.le_trans (List.length_filter_le _ _) hl) fun S4 o4 h4 k4 ho4 => ?_
          have A4 := A3.trans (RAfter.dropped h4 k4 ho4)
          have a4 := a3.drop (nd_del' hn) t (u := D.used)
          have hl4 : (dropR t (dropR s R.begun.l)).length ≤ 1000000 := Nat.le_trans (List.length_filter_le _ _) (Nat.le_trans (List.length_filter_le _ _) hl)
          have hx' : b ≠ x := by have := h.lt; omega
          have hb4 : S4.cells b = some f.cell := by
            have c2 := k2.cells hb hbl hx'
            have c3 := k3.cells c2 (k2.lt hbl) hx'
            exact k4.cells c3 (k3.lt (k2.lt hbl)) hx'
          have hbl4 := k4.lt (k3.lt (k2.lt hbl))
          simp only [go_sem, Nat.reduceEqDiff, Nat.reduceAdd, Nat.reduceMul, Nat.reduceSub, Nat.reduceLeDiff, Int.reduceBEq, Int.reduceBNe, Int.reduceLT, Int.reduceLE, Int.reduceGT, Int.reduceGE, Int.reduceEq, ↓reduceIte, reduceCtorEq]
          refine refPlace h4 a4 hl4 (fun g hg => (mem_dropR.1 hg).2) (by simp only [go_sem, Nat.reduceEqDiff, Nat.reduceAdd, Nat.reduceMul, Nat.reduceSub, Nat.reduceLeDiff, Int.reduceBEq, Int.reduceBNe, Int.reduceLT, Int.reduceLE, Int.reduceGT, Int.reduceGE, Int.reduceEq, ↓reduceIte, reduceCtorEq, f0]) (by simp only [go_sem, Nat.reduceEqDiff, Nat.reduceAdd, Nat.reduceMul, Nat.reduceSub, Nat.reduceLeDiff, Int.reduceBEq, Int.reduceBNe, Int.reduceLT, Int.reduceLE, Int.reduceGT, Int.reduceGE, Int.reduceEq, ↓reduceIte, reduceCtorEq, f2]) (by simp only [go_sem, Nat.reduceEqDiff, Nat.reduceAdd, Nat.reduceMul, Nat.reduceSub, Nat.reduceLeDiff, Int.reduceBEq, Int.reduceBNe, Int.reduceLT, Int.reduceLE, Int.reduceGT, Int.reduceGE, Int.reduceEq, ↓reduceIte, reduceCtorEq]) fun fr' k sm g9 hk p1 p2 => ?_
          have g0 := sm 0 (by omega)
          have g2 := sm 2 (by omega)
          have g8 := sm 8 (by omega)
          simp only [go_sem, Nat.reduceEqDiff, Nat.reduceAdd, Nat.reduceMul, Nat.reduceSub, Nat.reduceLeDiff, Int.reduceBEq, Int.reduceBNe, Int.reduceLT, Int.reduceLE, Int.reduceGT, Int.reduceGE, Int.reduceEq, ↓reduceIte, reduceCtorEq, f0, f2, f8] at g0 g2 g8
          simp only [go_sem, Nat.reduceEqDiff, Nat.reduceAdd, Nat.reduceMul, Nat.reduceSub, Nat.reduceLeDiff, Int.reduceBEq, Int.reduceBNe, Int.reduceLT, Int.reduceLE, Int.reduceGT, Int.reduceGE, Int.reduceEq, ↓reduceIte, reduceCtorEq]
          refine refInsert (R := { R.begun with l := dropR t (dropR s R.begun.l) }) h4 hl4 hk hv g0 g2 g8 g9 hb4 hbl4 fun S5 o5 A5 => ?_
          have a5 := a4.insert (nd_del' (nd_del' hn)) (k := k) (f := ⟨t, f.v, f.p, f.sure⟩) p1 p2 (u := D.used)
          exact hQ S5 o5 _ (A4.trans A5) (a5.congr (fun z => renF_mem hn rfl z) rfl rfl rfl rfl)
    have hne1 : ¬ x = S.n := by have := h.lt; omega
    have hne2 : ¬ o = S.n := by have := h.olt (fun e => hn0 (by rw [e]; rfl)); omega
    refine ⟨?_, ?_⟩
    · simp only [go_sem, Nat.reduceEqDiff, Nat.reduceAdd, Nat.reduceMul, Nat.reduceSub, Nat.reduceLeDiff, Int.reduceBEq, Int.reduceBNe, Int.reduceLT, Int.reduceLE, Int.reduceGT, Int.reduceGE, Int.reduceEq, ↓reduceIte, reduceCtorEq, hh]
      refine wi_call ?_
      simp only [go_sem, Nat.reduceEqDiff, Nat.reduceAdd, Nat.reduceMul, Nat.reduceSub, Nat.reduceLeDiff, Int.reduceBEq, Int.reduceBNe, Int.reduceLT, Int.reduceLE, Int.reduceGT, Int.reduceGE, Int.reduceEq, ↓reduceIte, reduceCtorEq]
      refine refAt_runs h hl (fun j' f' hf' hfs' hno' => ?_) fun hno' => absurd hfs (hno' f (List.mem_of_getElem? hf))
      have e : j' = j := name_inj a.nodup hf' hf (hfs'.trans hfs.symm)
      subst e
      simp only [go_sem, Nat.reduceEqDiff, Nat.reduceAdd, Nat.reduceMul, Nat.reduceSub, Nat.reduceLeDiff, Int.reduceBEq, Int.reduceBNe, Int.reduceLT, Int.reduceLE, Int.reduceGT, Int.reduceGE, Int.reduceEq, ↓reduceIte, reduceCtorEq, hh, hcs, hjt, hd0, List.cons_append, List.nil_append, hrl, hne1, hne2, hv.one, hv.cells1, V.cells_agg, hL']
      have kS : Keeps (fun _ => False) S ((S.add (.cells [.str (mkS []), .sl [] 0 1 .nil, .int .i64 0])).set S.n (.cells [.str (mkS f.name), f.v, .int .i64 f.sure])) := ((Keeps.refl _ S).add _).set (.inr (Nat.le_refl _)) _
      refine wc_ite (b := decide ((f.sure : Int) < (f.p.length : Int))) (by simp only [go_sem, Nat.reduceEqDiff, Nat.reduceAdd, Nat.reduceMul, Nat.reduceSub, Nat.reduceLeDiff, Int.reduceBEq, Int.reduceBNe, Int.reduceLT, Int.reduceLE, Int.reduceGT, Int.reduceGE, Int.reduceEq, ↓reduceIte, reduceCtorEq]) (fun hc => ?_) (fun hc => ?_)
      · have hlt : f.sure < f.p.length := by have := of_decide_eq_true hc; omega
        rw [if_pos ⟨ho', f.file, hx, hlt⟩] at hQ
        simp only [go_sem, Nat.reduceEqDiff, Nat.reduceAdd, Nat.reduceMul, Nat.reduceSub, Nat.reduceLeDiff, Int.reduceBEq, Int.reduceBNe, Int.reduceLT, Int.reduceLE, Int.reduceGT, Int.reduceGE, Int.reduceEq, ↓reduceIte, reduceCtorEq]
        exact hQ _ o R ⟨h.stay kS, kS.mono fun _ _ e => e.elim, fun _ h => .inl h⟩ a
      · have hge : ¬ f.sure < f.p.length := by have := of_decide_eq_false hc; omega
        simp only [go_sem, Nat.reduceEqDiff, Nat.reduceAdd, Nat.reduceMul, Nat.reduceSub, Nat.reduceLeDiff, Int.reduceBEq, Int.reduceBNe, Int.reduceLT, Int.reduceLE, Int.reduceGT, Int.reduceGE, Int.reduceEq, ↓reduceIte, reduceCtorEq]
        refine rest _ _ S.n (by simp only [go_sem, Nat.reduceEqDiff, Nat.reduceAdd, Nat.reduceMul, Nat.reduceSub, Nat.reduceLeDiff, Int.reduceBEq, Int.reduceBNe, Int.reduceLT, Int.reduceLE, Int.reduceGT, Int.reduceGE, Int.reduceEq, ↓reduceIte, reduceCtorEq]) (by simp only [go_sem, Nat.reduceEqDiff, Nat.reduceAdd, Nat.reduceMul, Nat.reduceSub, Nat.reduceLeDiff, Int.reduceBEq, Int.reduceBNe, Int.reduceLT, Int.reduceLE, Int.reduceGT, Int.reduceGE, Int.reduceEq, ↓reduceIte, reduceCtorEq]) (by simp only [go_sem, Nat.reduceEqDiff, Nat.reduceAdd, Nat.reduceMul, Nat.reduceSub, Nat.reduceLeDiff, Int.reduceBEq, Int.reduceBNe, Int.reduceLT, Int.reduceLE, Int.reduceGT, Int.reduceGE, Int.reduceEq, ↓reduceIte, reduceCtorEq]) (by simp only [go_sem, Nat.reduceEqDiff, Nat.reduceAdd, Nat.reduceMul, Nat.reduceSub, Nat.reduceLeDiff, Int.reduceBEq, Int.reduceBNe, Int.reduceLT, Int.reduceLE, Int.reduceGT, Int.reduceGE, Int.reduceEq, ↓reduceIte, reduceCtorEq]) ?_ ?_ (Nat.le_refl _) kS hge
        · rw [cells_setc, if_pos rfl]; rfl
        · simp only [St.set_n, St.add_n]; omega
    · simp only [go_sem, Nat.reduceEqDiff, Nat.reduceAdd, Nat.reduceMul, Nat.reduceSub, Nat.reduceLeDiff, Int.reduceBEq, Int.reduceBNe, Int.reduceLT, Int.reduceLE, Int.reduceGT, Int.reduceGE, Int.reduceEq, ↓reduceIte, reduceCtorEq, hh, hne1, hne2]
      refine wi_call ?_
      simp only [go_sem, Nat.reduceEqDiff, Nat.reduceAdd, Nat.reduceMul, Nat.reduceSub, Nat.reduceLeDiff, Int.reduceBEq, Int.reduceBNe, Int.reduceLT, Int.reduceLE, Int.reduceGT, Int.reduceGE, Int.reduceEq, ↓reduceIte, reduceCtorEq]
      have k0 : Keeps (fun _ => False) S (S.add (.cells [.str (mkS []), .sl [] 0 1 .nil, .int .i64 0])) := (Keeps.refl _ S).add _
      refine refAt_runs (h.stay k0) hl (fun j' f' hf' hfs' hno' => ?_) fun hno' => absurd hfs (hno' f (List.mem_of_getElem? hf))
      have e : j' = j := name_inj a.nodup hf' hf (hfs'.trans hfs.symm)
      subst e
      simp only [go_sem, Nat.reduceEqDiff, Nat.reduceAdd, Nat.reduceMul, Nat.reduceSub, Nat.reduceLeDiff, Int.reduceBEq, Int.reduceBNe, Int.reduceLT, Int.reduceLE, Int.reduceGT, Int.reduceGE, Int.reduceEq, ↓reduceIte, reduceCtorEq, hh, hcs, hjt, hd0, List.cons_append, List.nil_append, hrl, hne1, hne2, hv.one, hv.cells1, V.cells_agg, hL']
      have kS : Keeps (fun _ => False) S ((S.add (.cells [.str (mkS []), .sl [] 0 1 .nil, .int .i64 0])).set S.n (.cells [.str (mkS f.name), f.v, .int .i64 f.sure])) := ((Keeps.refl _ S).add _).set (.inr (Nat.le_refl _)) _
      refine wc_ite (b := decide ((f.sure : Int) < (f.p.length : Int))) (by simp only [go_sem, Nat.reduceEqDiff, Nat.reduceAdd, Nat.reduceMul, Nat.reduceSub, Nat.reduceLeDiff, Int.reduceBEq, Int.reduceBNe, Int.reduceLT, Int.reduceLE, Int.reduceGT, Int.reduceGE, Int.reduceEq, ↓reduceIte, reduceCtorEq]) (fun hc => ?_) (fun hc => ?_)
      · have hlt : f.sure < f.p.length := by have := of_decide_eq_true hc; omega
        rw [if_pos ⟨ho', f.file, hx, hlt⟩] at hQ
        simp only [go_sem, Nat.reduceEqDiff, Nat.reduceAdd, Nat.reduceMul, Nat.reduceSub, Nat.reduceLeDiff, Int.reduceBEq, Int.reduceBNe, Int.reduceLT, Int.reduceLE, Int.reduceGT, Int.reduceGE, Int.reduceEq, ↓reduceIte, reduceCtorEq]
        exact hQ _ o R ⟨h.stay kS, kS.mono fun _ _ e => e.elim, fun _ h => .inl h⟩ a
      · have hge : ¬ f.sure < f.p.length := by have := of_decide_eq_false hc; omega
        simp only [go_sem, Nat.reduceEqDiff, Nat.reduceAdd, Nat.reduceMul, Nat.reduceSub, Nat.reduceLeDiff, Int.reduceBEq, Int.reduceBNe, Int.reduceLT, Int.reduceLE, Int.reduceGT, Int.reduceGE, Int.reduceEq, ↓reduceIte, reduceCtorEq]
        refine rest _ _ S.n (by simp only [go_sem, Nat.reduceEqDiff, Nat.reduceAdd, Nat.reduceMul, Nat.reduceSub, Nat.reduceLeDiff, Int.reduceBEq, Int.reduceBNe, Int.reduceLT, Int.reduceLE, Int.reduceGT, Int.reduceGE, Int.reduceEq, ↓reduceIte, reduceCtorEq]) (by simp only [go_sem, Nat.reduceEqDiff, Nat.reduceAdd, Nat.reduceMul, Nat.reduceSub, Nat.reduceLeDiff, Int.reduceBEq, Int.reduceBNe, Int.reduceLT, Int.reduceLE, Int.reduceGT, Int.reduceGE, Int.reduceEq, ↓reduceIte, reduceCtorEq]) (by simp only [go_sem, Nat.reduceEqDiff, Nat.reduceAdd, Nat.reduceMul, Nat.reduceSub, Nat.reduceLeDiff, Int.reduceBEq, Int.reduceBNe, Int.reduceLT, Int.reduceLE, Int.reduceGT, Int.reduceGE, Int.reduceEq, ↓reduceIte, reduceCtorEq]) (by simp only [go_sem, Nat.reduceEqDiff, Nat.reduceAdd, Nat.reduceMul, Nat.reduceSub, Nat.reduceLeDiff, Int.reduceBEq, Int.reduceBNe, Int.reduceLT, Int.reduceLE, Int.reduceGT, Int.reduceGE, Int.reduceEq, ↓reduceIte, reduceCtorEq]) ?_ ?_ (Nat.le_refl _) kS hge
        · rw [cells_setc, if_pos rfl]; rfl
        · simp only [St.set_n, St.add_n]; omega
  · have hE : (if D.off = false ∧ (∃ x, findF s D.files = some x ∧ x.sure < x.p.length) then (12, D) else D.change s (renF s t)) = (R.thereE s, D) := by
      rw [if_neg, change_noR a hn _ hno]
      rintro ⟨h1, y, hy, _⟩
      rcases hno with h | h | h
      · rw [hns] at h; cases h
      · rw [a.off, h1] at h; cases h
      · obtain ⟨f, hf, e⟩ := List.mem_map.1 ((a.mem y).2 (findF_mem' hy).1)
        exact h f hf (by rw [← (findF_mem' hy).2, ← e]; rfl)
    rw [hE] at hQ
    have hEb := R.thereE_ne s
    simp only [go_sem, Nat.reduceEqDiff, Nat.reduceAdd, Nat.reduceMul, Nat.reduceSub, Nat.reduceLeDiff, Int.reduceBEq, Int.reduceBNe, Int.reduceLT, Int.reduceLE, Int.reduceGT, Int.reduceGE, Int.reduceEq, ↓reduceIte, reduceCtorEq, hEb]
    refine wc_ite (b := true) (by simp only [go_sem, Nat.reduceEqDiff, Nat.reduceAdd, Nat.reduceMul, Nat.reduceSub, Nat.reduceLeDiff, Int.reduceBEq, Int.reduceBNe, Int.reduceLT, Int.reduceLE, Int.reduceGT, Int.reduceGE, Int.reduceEq, ↓reduceIte, reduceCtorEq] <;> rfl) (fun _ => ?_) (fun h => by cases h)
    simp only [go_sem, Nat.reduceEqDiff, Nat.reduceAdd, Nat.reduceMul, Nat.reduceSub, Nat.reduceLeDiff, Int.reduceBEq, Int.reduceBNe, Int.reduceLT, Int.reduceLE, Int.reduceGT, Int.reduceGE, Int.reduceEq, ↓reduceIte, reduceCtorEq]
    exact hQ S o R (RAfter.refl h) a
end Go.VM
