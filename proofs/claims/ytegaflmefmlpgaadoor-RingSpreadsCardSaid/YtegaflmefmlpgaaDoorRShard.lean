/-
  Ring: Shard, of the program and of the document. NEWPP
-/
import Derived.Test.YtegaflmefmlpgaaDoorRSort
set_option maxRecDepth 20000
set_option linter.unusedVariables false
set_option linter.unusedSimpArgs false
namespace Go.VM
open Go Go.RowKit Go.Proofs

theorem decS_len (n : Nat) : (decS n).length ≤ 2 := by unfold decS; split <;> simp
theorem decS_pos (n : Nat) : 1 ≤ (decS n).length := by unfold decS; split <;> simp
theorem nameP_len (s k : Nat) : (nameP s k).length ≤ 11 := by
  unfold nameP
  have := decS_len s; have := decS_len k
  simp; omega
theorem ptOf_cell (s k : Nat) (hs : s < 8) : (ptOf s k).cell = [.int .u64 (hashN (nameP s k) : Nat), .int .i64 (s : Int)] := by
  unfold Pt.cell ptOf
  have : (Fin.ofNat 8 s).val = s := by show s % 8 = s; omega
  simp only [this]

theorem shard_row {w0 : World} {fr : Fr} {S S0 : St} {K : CPost} {v : V} {o s : Nat} {P : List Pt} (hs : s < 8) (hP : P.length ≤ 1000) (hv : RowAt S v (P.flatMap Pt.cell) P.length 2 o) (ho : P.length ≠ 0 → S0.n ≤ o) (k0 : Keeps (fun _ => False) S0 S)
    (f6 : fr 6 = v) (f7 : fr 7 = .int .i64 (s : Nat)) (f22 : fr 22 = .int .i64 0)
    (hK : ∀ fr' S' v' o', (∀ k, k = 0 ∨ k = 1 ∨ k = 7 ∨ k = 18 ∨ k = 19 → fr' k = fr k) → fr' 6 = v' → RowAt S' v' ((P ++ row1 s 16).flatMap Pt.cell) (P ++ row1 s 16).length 2 o' → S0.n ≤ o' → Keeps (fun _ => False) S0 S' → K .normal fr' S') :
    wCode (RSim Tryd.prog w0) (.loop l_ring_Shard_0) fr S (blkQ 2 K) := by
  refine loop_rule RSim.le (k := 16) (fun m fr1 S1 => ∃ (j o1 : Nat) (v1 : V), m = 16 - j ∧ j ≤ 16 ∧ (∀ k, k = 0 ∨ k = 1 ∨ k = 7 ∨ k = 18 ∨ k = 19 → fr1 k = fr k) ∧ fr1 22 = .int .i64 j ∧ fr1 6 = v1 ∧ RowAt S1 v1 ((P ++ row1 s j).flatMap Pt.cell) (P ++ row1 s j).length 2 o1 ∧ ((P ++ row1 s j).length ≠ 0 → S0.n ≤ o1) ∧ Keeps (fun _ => False) S0 S1) ?_
    ⟨0, o, v, rfl, by omega, fun _ _ => rfl, by rw [f22]; rfl, f6, by simpa [row1] using hv, by simpa [row1] using ho, k0⟩
  rintro m fr1 S1 ⟨j, o1, v1, hm, hj, sm, g22, g6, hv1, ho1, k1⟩
  have g7 := (sm 7 (by omega)).trans f7
  simp only [l_ring_Shard_0, go_sem, Nat.reduceEqDiff, Nat.reduceAdd, Nat.reduceMul, Nat.reduceSub, Nat.reduceLeDiff, Int.reduceBEq, Int.reduceBNe, Int.reduceLT, Int.reduceLE, Int.reduceGT, Int.reduceGE, Int.reduceEq, ↓reduceIte, reduceCtorEq, g22]
  refine wc_ite (b := decide ((j : Int) < 16)) (by simp only [go_sem, Nat.reduceEqDiff, Nat.reduceAdd, Nat.reduceMul, Nat.reduceSub, Nat.reduceLeDiff, Int.reduceBEq, Int.reduceBNe, Int.reduceLT, Int.reduceLE, Int.reduceGT, Int.reduceGE, Int.reduceEq, ↓reduceIte, reduceCtorEq]) (fun hc => ?_) (fun hc => ?_)
  · have hlt : j < 16 := by have := of_decide_eq_true hc; omega
    have w1 : IntKind.i64.wrap ((j : Int) + 1) = ((j + 1 : Nat) : Int) := by rw [w64 (by omega) (by omega)]; omega
    simp only [r_ring_Shard_0, go_sem, Nat.reduceEqDiff, Nat.reduceAdd, Nat.reduceMul, Nat.reduceSub, Nat.reduceLeDiff, Int.reduceBEq, Int.reduceBNe, Int.reduceLT, Int.reduceLE, Int.reduceGT, Int.reduceGE, Int.reduceEq, ↓reduceIte, reduceCtorEq, g6, g7, g22]
    refine wi_call ?_
    simp only [go_sem, Nat.reduceEqDiff, Nat.reduceAdd, Nat.reduceMul, Nat.reduceSub, Nat.reduceLeDiff, Int.reduceBEq, Int.reduceBNe, Int.reduceLT, Int.reduceLE, Int.reduceGT, Int.reduceGE, Int.reduceEq, ↓reduceIte, reduceCtorEq]
    refine itoa_runs (by omega) ?_
    have a1 : binStr .add (mkS [115, 104, 97, 114, 100, 45]) (mkS (decS s)) = some (.str (mkS ([115, 104, 97, 114, 100, 45] ++ decS s))) := str_add' (by have := decS_len s; simp; omega)
    have a2 : binStr .add (mkS (115 :: 104 :: 97 :: 114 :: 100 :: 45 :: decS s)) (mkS [45]) = some (.str (mkS (115 :: 104 :: 97 :: 114 :: 100 :: 45 :: (decS s ++ [45])))) := str_add' (by have := decS_len s; simp; omega)
    have a3 : binStr .add (mkS (115 :: 104 :: 97 :: 114 :: 100 :: 45 :: (decS s ++ [45]))) (mkS (decS j)) = some (.str (mkS (nameP s j))) := str_add' (by have := decS_len s; have := decS_len j; simp; omega)
    simp only [go_sem, Nat.reduceEqDiff, Nat.reduceAdd, Nat.reduceMul, Nat.reduceSub, Nat.reduceLeDiff, Int.reduceBEq, Int.reduceBNe, Int.reduceLT, Int.reduceLE, Int.reduceGT, Int.reduceGE, Int.reduceEq, ↓reduceIte, reduceCtorEq, a1, a2]
    refine wi_call ?_
    simp only [go_sem, Nat.reduceEqDiff, Nat.reduceAdd, Nat.reduceMul, Nat.reduceSub, Nat.reduceLeDiff, Int.reduceBEq, Int.reduceBNe, Int.reduceLT, Int.reduceLE, Int.reduceGT, Int.reduceGE, Int.reduceEq, ↓reduceIte, reduceCtorEq]
    refine itoa_runs (by omega) ?_
    simp only [go_sem, Nat.reduceEqDiff, Nat.reduceAdd, Nat.reduceMul, Nat.reduceSub, Nat.reduceLeDiff, Int.reduceBEq, Int.reduceBNe, Int.reduceLT, Int.reduceLE, Int.reduceGT, Int.reduceGE, Int.reduceEq, ↓reduceIte, reduceCtorEq, a3]
    refine wi_call ?_
    simp only [go_sem, Nat.reduceEqDiff, Nat.reduceAdd, Nat.reduceMul, Nat.reduceSub, Nat.reduceLeDiff, Int.reduceBEq, Int.reduceBNe, Int.reduceLT, Int.reduceLE, Int.reduceGT, Int.reduceGE, Int.reduceEq, ↓reduceIte, reduceCtorEq]
    refine ringHash_runs (by have := nameP_len s j; omega) ?_
    simp only [go_sem, Nat.reduceEqDiff, Nat.reduceAdd, Nat.reduceMul, Nat.reduceSub, Nat.reduceLeDiff, Int.reduceBEq, Int.reduceBNe, Int.reduceLT, Int.reduceLE, Int.reduceGT, Int.reduceGE, Int.reduceEq, ↓reduceIte, reduceCtorEq, g7, V.cells_agg]
    have hcell := ptOf_cell s j hs
    have hl1 : (P ++ row1 s j).length = P.length + j := by rw [List.length_append, row1_len]
    refine wi_append_row (v := v1) (xs := (ptOf s j).cell) (m := 1) (by simp only [go_sem, Nat.reduceEqDiff, Nat.reduceAdd, Nat.reduceMul, Nat.reduceSub, Nat.reduceLeDiff, Int.reduceBEq, Int.reduceBNe, Int.reduceLT, Int.reduceLE, Int.reduceGT, Int.reduceGE, Int.reduceEq, ↓reduceIte, reduceCtorEq, g6]) hv1 (by simp only [go_sem, Nat.reduceEqDiff, Nat.reduceAdd, Nat.reduceMul, Nat.reduceSub, Nat.reduceLeDiff, Int.reduceBEq, Int.reduceBNe, Int.reduceLT, Int.reduceLE, Int.reduceGT, Int.reduceGE, Int.reduceEq, ↓reduceIte, reduceCtorEq, V.elems, reduceCtorEq, if_false, hcell]) rfl (by rw [hl1]; simp [roomOk]; omega) fun v2 S2 o2 hv2 ho2 k2 => ?_
    have e1 : (P ++ row1 s j).flatMap Pt.cell ++ (ptOf s j).cell = (P ++ row1 s (j + 1)).flatMap Pt.cell := by rw [row1_succ, ← List.append_assoc, List.flatMap_append (ys := [ptOf s j])]; simp
    have e2 : (P ++ row1 s j).length + 1 = (P ++ row1 s (j + 1)).length := by rw [row1_succ]; simp; omega
    rw [e1, e2] at hv2
    simp only [go_sem, Nat.reduceEqDiff, Nat.reduceAdd, Nat.reduceMul, Nat.reduceSub, Nat.reduceLeDiff, Int.reduceBEq, Int.reduceBNe, Int.reduceLT, Int.reduceLE, Int.reduceGT, Int.reduceGE, Int.reduceEq, ↓reduceIte, reduceCtorEq, g22, w1]
    refine ⟨16 - (j + 1), by omega, j + 1, o2, v2, rfl, by omega, fun k hk => ?_, by simp only [go_sem, Nat.reduceEqDiff, Nat.reduceAdd, Nat.reduceMul, Nat.reduceSub, Nat.reduceLeDiff, Int.reduceBEq, Int.reduceBNe, Int.reduceLT, Int.reduceLE, Int.reduceGT, Int.reduceGE, Int.reduceEq, ↓reduceIte, reduceCtorEq], by simp only [go_sem, Nat.reduceEqDiff, Nat.reduceAdd, Nat.reduceMul, Nat.reduceSub, Nat.reduceLeDiff, Int.reduceBEq, Int.reduceBNe, Int.reduceLT, Int.reduceLE, Int.reduceGT, Int.reduceGE, Int.reduceEq, ↓reduceIte, reduceCtorEq], hv2, fun hh => Nat.le_trans k1.n (ho2 (by omega)), ?_⟩
    · try simp only [put_some]
      repeat rw [if_neg (by omega)]
      exact sm k hk
    · exact k1.trans k2 fun q hq hq' => by have := ho1 hq'.1; have := hq'.2; omega
  · have hje : j = 16 := by have := of_decide_eq_false hc; omega
    subst hje
    simp only [go_sem, Nat.reduceEqDiff, Nat.reduceAdd, Nat.reduceMul, Nat.reduceSub, Nat.reduceLeDiff, Int.reduceBEq, Int.reduceBNe, Int.reduceLT, Int.reduceLE, Int.reduceGT, Int.reduceGE, Int.reduceEq, ↓reduceIte, reduceCtorEq]
    refine hK _ S1 v1 o1 (fun k hk => ?_) (by simp only [go_sem, Nat.reduceEqDiff, Nat.reduceAdd, Nat.reduceMul, Nat.reduceSub, Nat.reduceLeDiff, Int.reduceBEq, Int.reduceBNe, Int.reduceLT, Int.reduceLE, Int.reduceGT, Int.reduceGE, Int.reduceEq, ↓reduceIte, reduceCtorEq, g6]) hv1 (ho1 (by rw [List.length_append, row1_len]; omega)) k1
    try simp only [put_some]
    repeat rw [if_neg (by omega)]
    exact sm k hk

theorem row_nth {S : St} {v : V} {l : List Pt} {o j : Nat} {p : Pt} (hv : RowAt S v (l.flatMap Pt.cell) l.length 2 o) (hp : l[j]? = some p) :
    ∃ r, v = .msl o 0 l.length 2 ∧ S.cells o = some (l.flatMap Pt.cell) ∧ o < S.n ∧ (l.flatMap Pt.cell).drop (j * 2) = .int .u64 (p.at_ : Nat) :: .int .i64 (p.sh.val : Nat) :: r := by
  have hj := (List.getElem?_eq_some_iff.1 hp).1
  rcases hv with ⟨e, _⟩ | ⟨_, rfl, h2, _, h4⟩
  · omega
  · exact ⟨(l.drop (j + 1)).flatMap Pt.cell, rfl, h2, h4, by rw [fm_at Pt.len hp]; rfl⟩

theorem ringShard_runs {w0 : World} {S : St} {Q : AEnd → St → Prop} {id : List UInt8} {n : Int} (hl : id.length ≤ 1000000000000000)
    (hQ' : (n < 1 ∨ 8 < n) → Q (.ret (.tup [.int .i64 0, .int .i64 1])) S)
    (hQ : ∀ (S' : St) (m s : Nat), n = m → 1 ≤ m → m ≤ 8 → IsBest (hashN id) (pts m) s → Keeps (fun _ => False) S S' → Q (.ret (.tup [.int .i64 (s : Nat), .int .i64 0])) S') :
    RSim Tryd.prog w0 n_ring_Shard [.str (mkS id), .int .i64 n] S Q := by
  refine RSim.run mixed k_ring_Shard ?_ (by simp)
  simp only [b_ring_Shard, go_sem, Nat.reduceEqDiff, Nat.reduceAdd, Nat.reduceMul, Nat.reduceSub, Nat.reduceLeDiff, Int.reduceBEq, Int.reduceBNe, Int.reduceLT, Int.reduceLE, Int.reduceGT, Int.reduceGE, Int.reduceEq, ↓reduceIte, reduceCtorEq]
  by_cases h1 : n < 1
  · simp only [h1, go_sem, Nat.reduceEqDiff, Nat.reduceAdd, Nat.reduceMul, Nat.reduceSub, Nat.reduceLeDiff, Int.reduceBEq, Int.reduceBNe, Int.reduceLT, Int.reduceLE, Int.reduceGT, Int.reduceGE, Int.reduceEq, ↓reduceIte, reduceCtorEq]
    refine wc_ite (b := true) (by simp only [go_sem, Nat.reduceEqDiff, Nat.reduceAdd, Nat.reduceMul, Nat.reduceSub, Nat.reduceLeDiff, Int.reduceBEq, Int.reduceBNe, Int.reduceLT, Int.reduceLE, Int.reduceGT, Int.reduceGE, Int.reduceEq, ↓reduceIte, reduceCtorEq] <;> rfl) (fun _ => ?_) (fun h => by cases h)
    simp only [go_sem, Nat.reduceEqDiff, Nat.reduceAdd, Nat.reduceMul, Nat.reduceSub, Nat.reduceLeDiff, Int.reduceBEq, Int.reduceBNe, Int.reduceLT, Int.reduceLE, Int.reduceGT, Int.reduceGE, Int.reduceEq, ↓reduceIte, reduceCtorEq]
    exact hQ' (.inl h1)
  by_cases h2 : n > 8
  · simp only [h1, h2, go_sem, Nat.reduceEqDiff, Nat.reduceAdd, Nat.reduceMul, Nat.reduceSub, Nat.reduceLeDiff, Int.reduceBEq, Int.reduceBNe, Int.reduceLT, Int.reduceLE, Int.reduceGT, Int.reduceGE, Int.reduceEq, ↓reduceIte, reduceCtorEq]
    refine wc_ite (b := true) (by simp only [go_sem, Nat.reduceEqDiff, Nat.reduceAdd, Nat.reduceMul, Nat.reduceSub, Nat.reduceLeDiff, Int.reduceBEq, Int.reduceBNe, Int.reduceLT, Int.reduceLE, Int.reduceGT, Int.reduceGE, Int.reduceEq, ↓reduceIte, reduceCtorEq] <;> rfl) (fun _ => ?_) (fun h => by cases h)
    simp only [go_sem, Nat.reduceEqDiff, Nat.reduceAdd, Nat.reduceMul, Nat.reduceSub, Nat.reduceLeDiff, Int.reduceBEq, Int.reduceBNe, Int.reduceLT, Int.reduceLE, Int.reduceGT, Int.reduceGE, Int.reduceEq, ↓reduceIte, reduceCtorEq]
    exact hQ' (.inr h2)
  obtain ⟨m, rfl⟩ : ∃ m : Nat, n = m := ⟨n.toNat, by omega⟩
  simp only [h1, h2, go_sem, Nat.reduceEqDiff, Nat.reduceAdd, Nat.reduceMul, Nat.reduceSub, Nat.reduceLeDiff, Int.reduceBEq, Int.reduceBNe, Int.reduceLT, Int.reduceLE, Int.reduceGT, Int.reduceGE, Int.reduceEq, ↓reduceIte, reduceCtorEq]
  refine wc_ite (b := false) (by simp only [go_sem, Nat.reduceEqDiff, Nat.reduceAdd, Nat.reduceMul, Nat.reduceSub, Nat.reduceLeDiff, Int.reduceBEq, Int.reduceBNe, Int.reduceLT, Int.reduceLE, Int.reduceGT, Int.reduceGE, Int.reduceEq, ↓reduceIte, reduceCtorEq] <;> rfl) (fun h => by cases h) (fun _ => ?_)
  simp only [go_sem, Nat.reduceEqDiff, Nat.reduceAdd, Nat.reduceMul, Nat.reduceSub, Nat.reduceLeDiff, Int.reduceBEq, Int.reduceBNe, Int.reduceLT, Int.reduceLE, Int.reduceGT, Int.reduceGE, Int.reduceEq, ↓reduceIte, reduceCtorEq]
  refine loop_rule RSim.le (k := m) (fun q fr S1 => ∃ (s o : Nat) (v : V), q = m - s ∧ s ≤ m ∧ fr 0 = .str (mkS id) ∧ fr 18 = .int .i64 (m : Nat) ∧ fr 19 = .int .i64 s ∧ fr 6 = v ∧ RowAt S1 v ((pts s).flatMap Pt.cell) (pts s).length 2 o ∧ ((pts s).length ≠ 0 → S.n ≤ o) ∧ Keeps (fun _ => False) S S1) ?_
    ⟨0, 0, _, rfl, by omega, by simp only [go_sem, Nat.reduceEqDiff, Nat.reduceAdd, Nat.reduceMul, Nat.reduceSub, Nat.reduceLeDiff, Int.reduceBEq, Int.reduceBNe, Int.reduceLT, Int.reduceLE, Int.reduceGT, Int.reduceGE, Int.reduceEq, ↓reduceIte, reduceCtorEq], by simp only [go_sem, Nat.reduceEqDiff, Nat.reduceAdd, Nat.reduceMul, Nat.reduceSub, Nat.reduceLeDiff, Int.reduceBEq, Int.reduceBNe, Int.reduceLT, Int.reduceLE, Int.reduceGT, Int.reduceGE, Int.reduceEq, ↓reduceIte, reduceCtorEq], by simp only [go_sem, Nat.reduceEqDiff, Nat.reduceAdd, Nat.reduceMul, Nat.reduceSub, Nat.reduceLeDiff, Int.reduceBEq, Int.reduceBNe, Int.reduceLT, Int.reduceLE, Int.reduceGT, Int.reduceGE, Int.reduceEq, ↓reduceIte, reduceCtorEq]; rfl, by simp only [go_sem, Nat.reduceEqDiff, Nat.reduceAdd, Nat.reduceMul, Nat.reduceSub, Nat.reduceLeDiff, Int.reduceBEq, Int.reduceBNe, Int.reduceLT, Int.reduceLE, Int.reduceGT, Int.reduceGE, Int.reduceEq, ↓reduceIte, reduceCtorEq], RowAt.nil _ _ _, fun h => absurd rfl h, Keeps.refl _ _⟩
  rintro q fr S1 ⟨s, o, v, hq, hs, f0, f18, f19, f6, hv, ho, k1⟩
  simp only [l_ring_Shard_1, go_sem, Nat.reduceEqDiff, Nat.reduceAdd, Nat.reduceMul, Nat.reduceSub, Nat.reduceLeDiff, Int.reduceBEq, Int.reduceBNe, Int.reduceLT, Int.reduceLE, Int.reduceGT, Int.reduceGE, Int.reduceEq, ↓reduceIte, reduceCtorEq, f18, f19]
  refine wc_ite (b := decide ((s : Int) < (m : Int))) (by simp only [go_sem, Nat.reduceEqDiff, Nat.reduceAdd, Nat.reduceMul, Nat.reduceSub, Nat.reduceLeDiff, Int.reduceBEq, Int.reduceBNe, Int.reduceLT, Int.reduceLE, Int.reduceGT, Int.reduceGE, Int.reduceEq, ↓reduceIte, reduceCtorEq]) (fun hc => ?_) (fun hc => ?_)
  · have hlt : s < m := by have := of_decide_eq_true hc; omega
    have w1 : IntKind.i64.wrap ((s : Int) + 1) = ((s + 1 : Nat) : Int) := by rw [w64 (by omega) (by omega)]; omega
    simp only [go_sem, Nat.reduceEqDiff, Nat.reduceAdd, Nat.reduceMul, Nat.reduceSub, Nat.reduceLeDiff, Int.reduceBEq, Int.reduceBNe, Int.reduceLT, Int.reduceLE, Int.reduceGT, Int.reduceGE, Int.reduceEq, ↓reduceIte, reduceCtorEq, f19]
    refine shard_row (S0 := S) (s := s) (by omega) (by rw [pts_len]; omega) hv ho k1 (by simp only [go_sem, Nat.reduceEqDiff, Nat.reduceAdd, Nat.reduceMul, Nat.reduceSub, Nat.reduceLeDiff, Int.reduceBEq, Int.reduceBNe, Int.reduceLT, Int.reduceLE, Int.reduceGT, Int.reduceGE, Int.reduceEq, ↓reduceIte, reduceCtorEq, f6]) (by simp only [go_sem, Nat.reduceEqDiff, Nat.reduceAdd, Nat.reduceMul, Nat.reduceSub, Nat.reduceLeDiff, Int.reduceBEq, Int.reduceBNe, Int.reduceLT, Int.reduceLE, Int.reduceGT, Int.reduceGE, Int.reduceEq, ↓reduceIte, reduceCtorEq]) (by simp only [go_sem, Nat.reduceEqDiff, Nat.reduceAdd, Nat.reduceMul, Nat.reduceSub, Nat.reduceLeDiff, Int.reduceBEq, Int.reduceBNe, Int.reduceLT, Int.reduceLE, Int.reduceGT, Int.reduceGE, Int.reduceEq, ↓reduceIte, reduceCtorEq]) fun fr' S2 v2 o2 sm g6 hv2 ho2 k2 => ?_
    have g0 := sm 0 (by omega)
    have g18 := sm 18 (by omega)
    have g19 := sm 19 (by omega)
    simp only [go_sem, Nat.reduceEqDiff, Nat.reduceAdd, Nat.reduceMul, Nat.reduceSub, Nat.reduceLeDiff, Int.reduceBEq, Int.reduceBNe, Int.reduceLT, Int.reduceLE, Int.reduceGT, Int.reduceGE, Int.reduceEq, ↓reduceIte, reduceCtorEq, f0, f18, f19] at g0 g18 g19
    rw [← pts_succ] at hv2
    simp only [go_sem, Nat.reduceEqDiff, Nat.reduceAdd, Nat.reduceMul, Nat.reduceSub, Nat.reduceLeDiff, Int.reduceBEq, Int.reduceBNe, Int.reduceLT, Int.reduceLE, Int.reduceGT, Int.reduceGE, Int.reduceEq, ↓reduceIte, reduceCtorEq, g19, w1]
    exact ⟨m - (s + 1), by omega, s + 1, o2, v2, rfl, by omega, by simp only [go_sem, Nat.reduceEqDiff, Nat.reduceAdd, Nat.reduceMul, Nat.reduceSub, Nat.reduceLeDiff, Int.reduceBEq, Int.reduceBNe, Int.reduceLT, Int.reduceLE, Int.reduceGT, Int.reduceGE, Int.reduceEq, ↓reduceIte, reduceCtorEq, g0], by simp only [go_sem, Nat.reduceEqDiff, Nat.reduceAdd, Nat.reduceMul, Nat.reduceSub, Nat.reduceLeDiff, Int.reduceBEq, Int.reduceBNe, Int.reduceLT, Int.reduceLE, Int.reduceGT, Int.reduceGE, Int.reduceEq, ↓reduceIte, reduceCtorEq, g18], by simp only [go_sem, Nat.reduceEqDiff, Nat.reduceAdd, Nat.reduceMul, Nat.reduceSub, Nat.reduceLeDiff, Int.reduceBEq, Int.reduceBNe, Int.reduceLT, Int.reduceLE, Int.reduceGT, Int.reduceGE, Int.reduceEq, ↓reduceIte, reduceCtorEq], by simp only [go_sem, Nat.reduceEqDiff, Nat.reduceAdd, Nat.reduceMul, Nat.reduceSub, Nat.reduceLeDiff, Int.reduceBEq, Int.reduceBNe, Int.reduceLT, Int.reduceLE, Int.reduceGT, Int.reduceGE, Int.reduceEq, ↓reduceIte, reduceCtorEq, g6], hv2, fun _ => ho2, k2⟩
  · have hsm : s = m := by have := of_decide_eq_false hc; omega
    subst hsm
    have hpl := pts_len s
    have hne : pts s ≠ [] := fun e => by rw [e] at hpl; simp at hpl; omega
    simp only [s_ring_Shard_0, go_sem, Nat.reduceEqDiff, Nat.reduceAdd, Nat.reduceMul, Nat.reduceSub, Nat.reduceLeDiff, Int.reduceBEq, Int.reduceBNe, Int.reduceLT, Int.reduceLE, Int.reduceGT, Int.reduceGE, Int.reduceEq, ↓reduceIte, reduceCtorEq, f6]
    refine wi_call ?_
    simp only [go_sem, Nat.reduceEqDiff, Nat.reduceAdd, Nat.reduceMul, Nat.reduceSub, Nat.reduceLeDiff, Int.reduceBEq, Int.reduceBNe, Int.reduceLT, Int.reduceLE, Int.reduceGT, Int.reduceGE, Int.reduceEq, ↓reduceIte, reduceCtorEq]
    refine sortPts_runs hv hne (by omega) fun l' S2 hp hso hv2 k2 => ?_
    have k2' : Keeps (fun _ => False) S S2 := k1.trans k2 fun j hj e => by have := ho (by omega); omega
    have hl' : l'.length = s * 16 := by rw [hp.length_eq, hpl]
    have hat : ∀ p ∈ l', p.at_ < 18446744073709551616 := fun p h => pts_at (hp.mem_iff.1 h)
    have fin : ∀ (k : Nat) (p : Pt), ((l'[k]? = some p ∧ hashN id ≤ p.at_ ∧ ∀ (i : Nat) (q : Pt), i < k → l'[i]? = some q → q.at_ < hashN id) ∨ (k = 0 ∧ l'[0]? = some p ∧ ∀ q ∈ l', q.at_ < hashN id)) → ∀ S3, Keeps (fun _ => False) S S3 → Q (.ret (.tup [.int .i64 (p.sh.val : Nat), .int .i64 0])) S3 := fun k p h S3 k3 =>
      hQ S3 s p.sh.val rfl (by omega) (by omega) ((best_sorted (hashN_lt id) hso hat h).perm hp) k3
    simp only [go_sem, Nat.reduceEqDiff, Nat.reduceAdd, Nat.reduceMul, Nat.reduceSub, Nat.reduceLeDiff, Int.reduceBEq, Int.reduceBNe, Int.reduceLT, Int.reduceLE, Int.reduceGT, Int.reduceGE, Int.reduceEq, ↓reduceIte, reduceCtorEq, f0]
    refine wi_call ?_
    simp only [go_sem, Nat.reduceEqDiff, Nat.reduceAdd, Nat.reduceMul, Nat.reduceSub, Nat.reduceLeDiff, Int.reduceBEq, Int.reduceBNe, Int.reduceLT, Int.reduceLE, Int.reduceGT, Int.reduceGE, Int.reduceEq, ↓reduceIte, reduceCtorEq]
    refine ringHash_runs hl ?_
    obtain ⟨p0, hp0⟩ : ∃ p, l'[0]? = some p := ⟨l'[0]'(by omega), List.getElem?_eq_getElem (by omega)⟩
    obtain ⟨r0, hvm, hc2, ho2, hd0⟩ := row_nth hv2 hp0
    subst hvm
    simp only [go_sem, Nat.reduceEqDiff, Nat.reduceAdd, Nat.reduceMul, Nat.reduceSub, Nat.reduceLeDiff, Int.reduceBEq, Int.reduceBNe, Int.reduceLT, Int.reduceLE, Int.reduceGT, Int.reduceGE, Int.reduceEq, ↓reduceIte, reduceCtorEq, f6]
    refine loop_rule RSim.le (k := l'.length) (fun q fr2 S3 => ∃ j : Nat, q = l'.length - j ∧ j ≤ l'.length ∧ fr2 44 = .msl o 0 l'.length 2 ∧ fr2 6 = .msl o 0 l'.length 2 ∧ fr2 45 = .int .i64 (l'.length : Nat) ∧ fr2 46 = .int .i64 j ∧ fr2 9 = .int .u64 (hashN id : Nat) ∧ (∀ (i : Nat) (q : Pt), i < j → l'[i]? = some q → q.at_ < hashN id) ∧ RowAt S3 (.msl o 0 l'.length 2) (l'.flatMap Pt.cell) l'.length 2 o ∧ Keeps (fun _ => False) S S3) ?_
      ⟨0, rfl, by omega, by simp only [go_sem, Nat.reduceEqDiff, Nat.reduceAdd, Nat.reduceMul, Nat.reduceSub, Nat.reduceLeDiff, Int.reduceBEq, Int.reduceBNe, Int.reduceLT, Int.reduceLE, Int.reduceGT, Int.reduceGE, Int.reduceEq, ↓reduceIte, reduceCtorEq], by simp only [go_sem, Nat.reduceEqDiff, Nat.reduceAdd, Nat.reduceMul, Nat.reduceSub, Nat.reduceLeDiff, Int.reduceBEq, Int.reduceBNe, Int.reduceLT, Int.reduceLE, Int.reduceGT, Int.reduceGE, Int.reduceEq, ↓reduceIte, reduceCtorEq, f6], by simp only [go_sem, Nat.reduceEqDiff, Nat.reduceAdd, Nat.reduceMul, Nat.reduceSub, Nat.reduceLeDiff, Int.reduceBEq, Int.reduceBNe, Int.reduceLT, Int.reduceLE, Int.reduceGT, Int.reduceGE, Int.reduceEq, ↓reduceIte, reduceCtorEq], by simp only [go_sem, Nat.reduceEqDiff, Nat.reduceAdd, Nat.reduceMul, Nat.reduceSub, Nat.reduceLeDiff, Int.reduceBEq, Int.reduceBNe, Int.reduceLT, Int.reduceLE, Int.reduceGT, Int.reduceGE, Int.reduceEq, ↓reduceIte, reduceCtorEq]; rfl, by simp only [go_sem, Nat.reduceEqDiff, Nat.reduceAdd, Nat.reduceMul, Nat.reduceSub, Nat.reduceLeDiff, Int.reduceBEq, Int.reduceBNe, Int.reduceLT, Int.reduceLE, Int.reduceGT, Int.reduceGE, Int.reduceEq, ↓reduceIte, reduceCtorEq], fun i q h => by omega, hv2, k2'⟩
    rintro q fr2 S3 ⟨j, hq2, hj, g44, g6, g45, g46, g9, hbel, hv3, k3⟩
    simp only [l_ring_Shard_2, go_sem, Nat.reduceEqDiff, Nat.reduceAdd, Nat.reduceMul, Nat.reduceSub, Nat.reduceLeDiff, Int.reduceBEq, Int.reduceBNe, Int.reduceLT, Int.reduceLE, Int.reduceGT, Int.reduceGE, Int.reduceEq, ↓reduceIte, reduceCtorEq, g45, g46]
    refine wc_ite (b := decide ((j : Int) < (l'.length : Int))) (by simp only [go_sem, Nat.reduceEqDiff, Nat.reduceAdd, Nat.reduceMul, Nat.reduceSub, Nat.reduceLeDiff, Int.reduceBEq, Int.reduceBNe, Int.reduceLT, Int.reduceLE, Int.reduceGT, Int.reduceGE, Int.reduceEq, ↓reduceIte, reduceCtorEq]) (fun hc => ?_) (fun hc => ?_)
    · have hjl : j < l'.length := by have := of_decide_eq_true hc; omega
      have hpj : l'[j]? = some (l'[j]'hjl) := List.getElem?_eq_getElem hjl
      generalize l'[j]'hjl = p at hpj
      obtain ⟨r, _, hc3, ho3, hd⟩ := row_nth hv3 hpj
      have hjt : (j < l'.length) = True := eq_true hjl
      have hr2 : (2 ≤ r.length + 1 + 1) = True := eq_true (by omega)
      have hne2 : ¬ o = S3.n := by omega
      have w1 : IntKind.i64.wrap ((j : Int) + 1) = ((j + 1 : Nat) : Int) := by rw [w64 (by omega) (by omega)]; omega
      have kS : Keeps (fun _ => False) S3 ((S3.add (.cells [.int .u64 0, .int .i64 0])).set S3.n (.cells [.int .u64 (p.at_ : Nat), .int .i64 (p.sh.val : Nat)])) := ((Keeps.refl _ S3).add _).set (.inr (Nat.le_refl _)) _
      simp only [r_ring_Shard_1, go_sem, Nat.reduceEqDiff, Nat.reduceAdd, Nat.reduceMul, Nat.reduceSub, Nat.reduceLeDiff, Int.reduceBEq, Int.reduceBNe, Int.reduceLT, Int.reduceLE, Int.reduceGT, Int.reduceGE, Int.reduceEq, ↓reduceIte, reduceCtorEq, g9, g44, g46, hjt, hc3, hd, hr2, hne2, V.cells_agg]
      refine wc_ite (b := decide ((p.at_ : Int) ≥ (hashN id : Int))) (by simp only [go_sem, Nat.reduceEqDiff, Nat.reduceAdd, Nat.reduceMul, Nat.reduceSub, Nat.reduceLeDiff, Int.reduceBEq, Int.reduceBNe, Int.reduceLT, Int.reduceLE, Int.reduceGT, Int.reduceGE, Int.reduceEq, ↓reduceIte, reduceCtorEq]) (fun hc => ?_) (fun hc => ?_)
      · simp only [go_sem, Nat.reduceEqDiff, Nat.reduceAdd, Nat.reduceMul, Nat.reduceSub, Nat.reduceLeDiff, Int.reduceBEq, Int.reduceBNe, Int.reduceLT, Int.reduceLE, Int.reduceGT, Int.reduceGE, Int.reduceEq, ↓reduceIte, reduceCtorEq]
        exact fin j p (.inl ⟨hpj, by have := of_decide_eq_true hc; omega, hbel⟩) _ (k3.trans kS fun _ _ e => e)
      · have hlt2 : p.at_ < hashN id := by have := of_decide_eq_false hc; omega
        simp only [go_sem, Nat.reduceEqDiff, Nat.reduceAdd, Nat.reduceMul, Nat.reduceSub, Nat.reduceLeDiff, Int.reduceBEq, Int.reduceBNe, Int.reduceLT, Int.reduceLE, Int.reduceGT, Int.reduceGE, Int.reduceEq, ↓reduceIte, reduceCtorEq, g46, w1]
        refine ⟨l'.length - (j + 1), by omega, j + 1, rfl, by omega, by simp only [go_sem, Nat.reduceEqDiff, Nat.reduceAdd, Nat.reduceMul, Nat.reduceSub, Nat.reduceLeDiff, Int.reduceBEq, Int.reduceBNe, Int.reduceLT, Int.reduceLE, Int.reduceGT, Int.reduceGE, Int.reduceEq, ↓reduceIte, reduceCtorEq, g44], by simp only [go_sem, Nat.reduceEqDiff, Nat.reduceAdd, Nat.reduceMul, Nat.reduceSub, Nat.reduceLeDiff, Int.reduceBEq, Int.reduceBNe, Int.reduceLT, Int.reduceLE, Int.reduceGT, Int.reduceGE, Int.reduceEq, ↓reduceIte, reduceCtorEq, g6], by simp only [go_sem, Nat.reduceEqDiff, Nat.reduceAdd, Nat.reduceMul, Nat.reduceSub, Nat.reduceLeDiff, Int.reduceBEq, Int.reduceBNe, Int.reduceLT, Int.reduceLE, Int.reduceGT, Int.reduceGE, Int.reduceEq, ↓reduceIte, reduceCtorEq, g45], by simp only [go_sem, Nat.reduceEqDiff, Nat.reduceAdd, Nat.reduceMul, Nat.reduceSub, Nat.reduceLeDiff, Int.reduceBEq, Int.reduceBNe, Int.reduceLT, Int.reduceLE, Int.reduceGT, Int.reduceGE, Int.reduceEq, ↓reduceIte, reduceCtorEq], by simp only [go_sem, Nat.reduceEqDiff, Nat.reduceAdd, Nat.reduceMul, Nat.reduceSub, Nat.reduceLeDiff, Int.reduceBEq, Int.reduceBNe, Int.reduceLT, Int.reduceLE, Int.reduceGT, Int.reduceGE, Int.reduceEq, ↓reduceIte, reduceCtorEq, g9], fun i q hi hqi => ?_, hv3.keep kS (fun _ h => h), k3.trans kS fun _ _ e => e⟩
        rcases Nat.lt_or_ge i j with h | h
        · exact hbel i q h hqi
        · have : i = j := by omega
          subst this
          rw [hpj] at hqi; injection hqi with hqi; subst hqi
          exact hlt2
    · have hje : j = l'.length := by have := of_decide_eq_false hc; omega
      obtain ⟨r, _, hc3, _, hd⟩ := row_nth hv3 hp0
      have h0t : (0 < l'.length) = True := eq_true (by omega)
      rw [Nat.zero_mul, List.drop_zero] at hd
      simp only [go_sem, Nat.reduceEqDiff, Nat.reduceAdd, Nat.reduceMul, Nat.reduceSub, Nat.reduceLeDiff, Int.reduceBEq, Int.reduceBNe, Int.reduceLT, Int.reduceLE, Int.reduceGT, Int.reduceGE, Int.reduceEq, ↓reduceIte, reduceCtorEq, g6, h0t, hc3, hd, Nat.zero_mul, Int.toNat_zero, List.drop_zero]
      exact fin 0 p0 (.inr ⟨rfl, hp0, fun q hq => by
        obtain ⟨i, hi⟩ := List.mem_iff_getElem?.1 hq
        exact hbel i q (by have := (List.getElem?_eq_some_iff.1 hi).1; omega) hi⟩) S3 k3
end Go.VM
