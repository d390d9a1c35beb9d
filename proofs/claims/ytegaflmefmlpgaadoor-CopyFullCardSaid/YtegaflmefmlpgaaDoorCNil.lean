/-
  awake; CopyNil. NEWPP
-/
import Derived.Test.YtegaflmefmlpgaaDoorCCalm
set_option maxRecDepth 20000
set_option linter.unusedVariables false
set_option linter.unusedSimpArgs false
namespace Go.VM
open Go Go.RowKit Go.Proofs

theorem copyAwake_runs {w0 : World} {S : St} {Q : AEnd → St → Prop} (hQ : ∀ S', Keeps (fun _ => False) S S' → Q (.ret (.bool true)) S') : RSim Tryd.prog w0 n_l16_awake [] S Q := by
  obtain ⟨n1, n2⟩ := shardN_ok (n := 0) (by decide)
  refine RSim.run mixed k_l16_awake ?_ (by simp)
  simp only [b_l16_awake, go_sem, Nat.reduceEqDiff, Nat.reduceAdd, Nat.reduceMul, Nat.reduceSub, Nat.reduceLeDiff, Int.reduceBEq, Int.reduceBNe, Int.reduceLT, Int.reduceLE, Int.reduceGT, Int.reduceGE, Int.reduceEq, ↓reduceIte, reduceCtorEq]
  refine wi_call ?_
  simp only [go_sem, Nat.reduceEqDiff, Nat.reduceAdd, Nat.reduceMul, Nat.reduceSub, Nat.reduceLeDiff, Int.reduceBEq, Int.reduceBNe, Int.reduceLT, Int.reduceLE, Int.reduceGT, Int.reduceGE, Int.reduceEq, ↓reduceIte, reduceCtorEq]
  refine new_ok (shardN 0) (by decide) (by decide) fun S1 i D d hcl ho' k1 => ?_
  simp only [go_sem, Nat.reduceEqDiff, Nat.reduceAdd, Nat.reduceMul, Nat.reduceSub, Nat.reduceLeDiff, Int.reduceBEq, Int.reduceBNe, Int.reduceLT, Int.reduceLE, Int.reduceGT, Int.reduceGE, Int.reduceEq, ↓reduceIte, reduceCtorEq]
  refine wi_call ?_
  simp only [go_sem, Nat.reduceEqDiff, Nat.reduceAdd, Nat.reduceMul, Nat.reduceSub, Nat.reduceLeDiff, Int.reduceBEq, Int.reduceBNe, Int.reduceLT, Int.reduceLE, Int.reduceGT, Int.reduceGE, Int.reduceEq, ↓reduceIte, reduceCtorEq]
  refine copyOpen_calm (n := 0) (es := []) (room := 1000) (by decide) (fun e h => by cases h) (by decide) d fun S2 c D2 g t tk X hc hk hX k2 o2 => ?_
  subst hX
  have lr : (frameB (recB ⟨1, 1, 1⟩)).length ≤ 40 := by
    have hT : (⟨1, 1, 1⟩ : Tm).Ok := ⟨by decide, by decide, by decide⟩
    have h1 := recB_len hT
    have h2 := frameB_le (r := recB ⟨1, 1, 1⟩) (by omega)
    omega
  have l0 : fileB ([] : List (List UInt8)) = [] := rfl
  have ho : (⟨1, ⟨[97], 0, []⟩⟩ : Op).Ok := ⟨by decide, ⟨by decide, by decide, by decide, by decide⟩⟩
  have hf : (⟨1, ⟨[97], 0, []⟩⟩ : Op).d.form = true := by decide
  have le : (frameB (entB ⟨1, ⟨[97], 0, []⟩⟩)).length ≤ 609 := by
    have h1 := entB_len ho hf
    have h2 := frameB_le (r := entB ⟨1, ⟨[97], 0, []⟩⟩) (by omega)
    omega
  obtain ⟨E1, m1, q1⟩ := hk.mark hc.good n1 (T := ⟨1, 1, 1⟩) ⟨by decide, by decide, by decide⟩ (by simp only [List.map_nil, l0, List.length_nil]; omega)
  have sv : CS.serve ⟨D2.abs, List.map Rec.b [], (replayAll []).1, (replayAll []).2⟩ (shardN 0) 1 = _ := (if_neg (by rintro (h | h); exact absurd (show 1 < 0 from h) (by decide); exact absurd (show 1 ≤ 0 from h) (by decide))).trans m1
  simp only [go_sem, Nat.reduceEqDiff, Nat.reduceAdd, Nat.reduceMul, Nat.reduceSub, Nat.reduceLeDiff, Int.reduceBEq, Int.reduceBNe, Int.reduceLT, Int.reduceLE, Int.reduceGT, Int.reduceGE, Int.reduceEq, ↓reduceIte, reduceCtorEq]
  refine wi_call ?_
  simp only [go_sem, Nat.reduceEqDiff, Nat.reduceAdd, Nat.reduceMul, Nat.reduceSub, Nat.reduceLeDiff, Int.reduceBEq, Int.reduceBNe, Int.reduceLT, Int.reduceLE, Int.reduceGT, Int.reduceGE, Int.reduceEq, ↓reduceIte, reduceCtorEq]
  refine serve_runs (n := 1) hc (by decide) (show 0 < 1000000 by decide) fun S3 D3 t3 tk3 a3 => ?_
  rw [sv] at a3
  rw [sv]
  simp only [go_sem, Nat.reduceEqDiff, Nat.reduceAdd, Nat.reduceMul, Nat.reduceSub, Nat.reduceLeDiff, Int.reduceBEq, Int.reduceBNe, Int.reduceLT, Int.reduceLE, Int.reduceGT, Int.reduceGE, Int.reduceEq, ↓reduceIte, reduceCtorEq]
  refine wi_call ?_
  simp only [go_sem, Nat.reduceEqDiff, Nat.reduceAdd, Nat.reduceMul, Nat.reduceSub, Nat.reduceLeDiff, Int.reduceBEq, Int.reduceBNe, Int.reduceLT, Int.reduceLE, Int.reduceGT, Int.reduceGE, Int.reduceEq, ↓reduceIte, reduceCtorEq]
  have l1 : fileB ([] ++ [recB ⟨1, 1, 1⟩]) = frameB (recB ⟨1, 1, 1⟩) := by simp [fileB]
  obtain ⟨E2, m2, q2⟩ := q1.app a3.w.good n1 ho hf ⟨rfl, rfl⟩ (by simp only [List.map_nil, l1]; omega)
  refine capp_runs (o := ⟨1, ⟨[97], 0, []⟩⟩) a3.w ho (show 1 < 1000000 by decide) (show 0 < 1000000 by decide) fun S4 D4 t4 tk4 a4 => ?_
  rw [m2] at a4
  rw [m2]
  simp only [go_sem, Nat.reduceEqDiff, Nat.reduceAdd, Nat.reduceMul, Nat.reduceSub, Nat.reduceLeDiff, Int.reduceBEq, Int.reduceBNe, Int.reduceLT, Int.reduceLE, Int.reduceGT, Int.reduceGE, Int.reduceEq, ↓reduceIte, reduceCtorEq]
  refine wi_call ?_
  simp only [go_sem, Nat.reduceEqDiff, Nat.reduceAdd, Nat.reduceMul, Nat.reduceSub, Nat.reduceLeDiff, Int.reduceBEq, Int.reduceBNe, Int.reduceLT, Int.reduceLE, Int.reduceGT, Int.reduceGE, Int.reduceEq, ↓reduceIte, reduceCtorEq]
  refine copyLen_runs a4.w ?_
  have hL : ((((replayAll []).2 ++ [(⟨1, ⟨[97], 0, []⟩⟩ : Op)]).length : Nat) : Int) = 1 := rfl
  simp only [hL]
  simp only [go_sem, Nat.reduceEqDiff, Nat.reduceAdd, Nat.reduceMul, Nat.reduceSub, Nat.reduceLeDiff, Int.reduceBEq, Int.reduceBNe, Int.reduceLT, Int.reduceLE, Int.reduceGT, Int.reduceGE, Int.reduceEq, ↓reduceIte, reduceCtorEq]
  refine wi_call ?_
  simp only [go_sem, Nat.reduceEqDiff, Nat.reduceAdd, Nat.reduceMul, Nat.reduceSub, Nat.reduceLeDiff, Int.reduceBEq, Int.reduceBNe, Int.reduceLT, Int.reduceLE, Int.reduceGT, Int.reduceGE, Int.reduceEq, ↓reduceIte, reduceCtorEq]
  refine copyTerms_runs a4.w fun S5 k5 => ?_
  simp only [Tm.v]
  simp only [go_sem, Nat.reduceEqDiff, Nat.reduceAdd, Nat.reduceMul, Nat.reduceSub, Nat.reduceLeDiff, Int.reduceBEq, Int.reduceBNe, Int.reduceLT, Int.reduceLE, Int.reduceGT, Int.reduceGE, Int.reduceEq, ↓reduceIte, reduceCtorEq]
  have o1 := fun j (hj : ownC c i g D2 t tk j) => (o2 j hj).elim (ho' j) fun h => Nat.le_trans k1.n h
  have K2 : Keeps (fun _ => False) S S2 := keeps_new k1 k2 ho'
  have K3 : Keeps (fun _ => False) S S3 := keeps_new K2 a3.k o1
  have K4 : Keeps (fun _ => False) S S4 := keeps_new K3 a4.k fun j hj => (a3.o j hj).elim (o1 j) fun h => Nat.le_trans K2.n h
  exact hQ S5 (K4.trans k5 fun _ _ h => h)

theorem copyNil_runs {w0 : World} {n : Nat} {o : Op} {S : St} {Q : AEnd → St → Prop} (hQ : ∀ S', Q (.ret (.bool true)) S') : RSim Tryd.prog w0 n_l16_CopyNil [.int .u64 n, .agg o.v] S Q := by
  have c0 : (S.add (.cells o.v)).cells S.n = some o.v := by rw [cells_addc, if_pos rfl]
  have l0 : S.n < (S.add (.cells o.v)).n := by rw [St.add_n]; omega
  simp only [Op.v, Dc.v] at c0 l0 ⊢
  refine RSim.run mixed k_l16_CopyNil ?_ (by simp)
  simp only [b_l16_CopyNil, go_sem, Nat.reduceEqDiff, Nat.reduceAdd, Nat.reduceMul, Nat.reduceSub, Nat.reduceLeDiff, Int.reduceBEq, Int.reduceBNe, Int.reduceLT, Int.reduceLE, Int.reduceGT, Int.reduceGE, Int.reduceEq, ↓reduceIte, reduceCtorEq]
  generalize S.add (.cells [.int .u64 (o.t : Nat), .str (mkS o.d.id), .int .i64 o.d.tm, .str (mkS o.d.tx)]) = S0 at *
  refine wi_call ?_
  simp only [go_sem, Nat.reduceEqDiff, Nat.reduceAdd, Nat.reduceMul, Nat.reduceSub, Nat.reduceLeDiff, Int.reduceBEq, Int.reduceBNe, Int.reduceLT, Int.reduceLE, Int.reduceGT, Int.reduceGE, Int.reduceEq, ↓reduceIte, reduceCtorEq]
  refine copyAwake_runs fun S1 k1 => ?_
  have c1 := k1.cells c0 l0 (fun h => h)
  simp only [go_sem, Nat.reduceEqDiff, Nat.reduceAdd, Nat.reduceMul, Nat.reduceSub, Nat.reduceLeDiff, Int.reduceBEq, Int.reduceBNe, Int.reduceLT, Int.reduceLE, Int.reduceGT, Int.reduceGE, Int.reduceEq, ↓reduceIte, reduceCtorEq]
  refine wi_call ?_
  simp only [go_sem, Nat.reduceEqDiff, Nat.reduceAdd, Nat.reduceMul, Nat.reduceSub, Nat.reduceLeDiff, Int.reduceBEq, Int.reduceBNe, Int.reduceLT, Int.reduceLE, Int.reduceGT, Int.reduceGE, Int.reduceEq, ↓reduceIte, reduceCtorEq]
  refine hear_nil ?_
  simp only [go_sem, Nat.reduceEqDiff, Nat.reduceAdd, Nat.reduceMul, Nat.reduceSub, Nat.reduceLeDiff, Int.reduceBEq, Int.reduceBNe, Int.reduceLT, Int.reduceLE, Int.reduceGT, Int.reduceGE, Int.reduceEq, ↓reduceIte, reduceCtorEq]
  refine wi_call ?_
  simp only [go_sem, Nat.reduceEqDiff, Nat.reduceAdd, Nat.reduceMul, Nat.reduceSub, Nat.reduceLeDiff, Int.reduceBEq, Int.reduceBNe, Int.reduceLT, Int.reduceLE, Int.reduceGT, Int.reduceGE, Int.reduceEq, ↓reduceIte, reduceCtorEq]
  refine serve_nil ?_
  simp only [go_sem, Nat.reduceEqDiff, Nat.reduceAdd, Nat.reduceMul, Nat.reduceSub, Nat.reduceLeDiff, Int.reduceBEq, Int.reduceBNe, Int.reduceLT, Int.reduceLE, Int.reduceGT, Int.reduceGE, Int.reduceEq, ↓reduceIte, reduceCtorEq, c1]
  refine wi_call ?_
  simp only [go_sem, Nat.reduceEqDiff, Nat.reduceAdd, Nat.reduceMul, Nat.reduceSub, Nat.reduceLeDiff, Int.reduceBEq, Int.reduceBNe, Int.reduceLT, Int.reduceLE, Int.reduceGT, Int.reduceGE, Int.reduceEq, ↓reduceIte, reduceCtorEq]
  refine capp_nil (o := o) fun S2 k2 => ?_
  simp only [go_sem, Nat.reduceEqDiff, Nat.reduceAdd, Nat.reduceMul, Nat.reduceSub, Nat.reduceLeDiff, Int.reduceBEq, Int.reduceBNe, Int.reduceLT, Int.reduceLE, Int.reduceGT, Int.reduceGE, Int.reduceEq, ↓reduceIte, reduceCtorEq]
  refine wi_call ?_
  simp only [go_sem, Nat.reduceEqDiff, Nat.reduceAdd, Nat.reduceMul, Nat.reduceSub, Nat.reduceLeDiff, Int.reduceBEq, Int.reduceBNe, Int.reduceLT, Int.reduceLE, Int.reduceGT, Int.reduceGE, Int.reduceEq, ↓reduceIte, reduceCtorEq]
  refine adopt_nil ?_
  simp only [go_sem, Nat.reduceEqDiff, Nat.reduceAdd, Nat.reduceMul, Nat.reduceSub, Nat.reduceLeDiff, Int.reduceBEq, Int.reduceBNe, Int.reduceLT, Int.reduceLE, Int.reduceGT, Int.reduceGE, Int.reduceEq, ↓reduceIte, reduceCtorEq]
  refine wi_call ?_
  simp only [go_sem, Nat.reduceEqDiff, Nat.reduceAdd, Nat.reduceMul, Nat.reduceSub, Nat.reduceLeDiff, Int.reduceBEq, Int.reduceBNe, Int.reduceLT, Int.reduceLE, Int.reduceGT, Int.reduceGE, Int.reduceEq, ↓reduceIte, reduceCtorEq]
  refine copyLen_nil ?_
  simp only [go_sem, Nat.reduceEqDiff, Nat.reduceAdd, Nat.reduceMul, Nat.reduceSub, Nat.reduceLeDiff, Int.reduceBEq, Int.reduceBNe, Int.reduceLT, Int.reduceLE, Int.reduceGT, Int.reduceGE, Int.reduceEq, ↓reduceIte, reduceCtorEq]
  refine wi_call ?_
  simp only [go_sem, Nat.reduceEqDiff, Nat.reduceAdd, Nat.reduceMul, Nat.reduceSub, Nat.reduceLeDiff, Int.reduceBEq, Int.reduceBNe, Int.reduceLT, Int.reduceLE, Int.reduceGT, Int.reduceGE, Int.reduceEq, ↓reduceIte, reduceCtorEq]
  refine copyOps_nil ?_
  have z : ((0 : Nat) : Int) = 0 := rfl
  simp only [go_sem, Nat.reduceEqDiff, Nat.reduceAdd, Nat.reduceMul, Nat.reduceSub, Nat.reduceLeDiff, Int.reduceBEq, Int.reduceBNe, Int.reduceLT, Int.reduceLE, Int.reduceGT, Int.reduceGE, Int.reduceEq, ↓reduceIte, reduceCtorEq, z]
  refine wi_call ?_
  simp only [go_sem, Nat.reduceEqDiff, Nat.reduceAdd, Nat.reduceMul, Nat.reduceSub, Nat.reduceLeDiff, Int.reduceBEq, Int.reduceBNe, Int.reduceLT, Int.reduceLE, Int.reduceGT, Int.reduceGE, Int.reduceEq, ↓reduceIte, reduceCtorEq]
  refine copyTerms_nil fun S3 k3 => ?_
  simp only [go_sem, Nat.reduceEqDiff, Nat.reduceAdd, Nat.reduceMul, Nat.reduceSub, Nat.reduceLeDiff, Int.reduceBEq, Int.reduceBNe, Int.reduceLT, Int.reduceLE, Int.reduceGT, Int.reduceGE, Int.reduceEq, ↓reduceIte, reduceCtorEq]
  exact hQ S3
end Go.VM
