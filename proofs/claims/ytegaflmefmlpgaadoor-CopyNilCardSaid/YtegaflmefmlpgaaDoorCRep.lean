/-
  A copy: replay of the terms; Open. NEWPP
-/
import Derived.Test.YtegaflmefmlpgaaDoorCRec
set_option maxRecDepth 20000
set_option linter.unusedVariables false
set_option linter.unusedSimpArgs false
namespace Go.VM
open Go Go.RowKit Go.Proofs

/-- The terms with the first of others; where they end. -/
def mixT (A B : Tm) : Nat → Tm
  | 0 => A
  | 1 => ⟨B.h, A.s, A.a⟩
  | 2 => ⟨B.h, B.s, A.a⟩
  | _ => B
def preB (T : Tm) (j : Nat) : List UInt8 := 70 :: ([T.h, T.s, T.a].take j).flatMap uvar
theorem mixT_ok {A B : Tm} (ha : A.Ok) (hb : B.Ok) (j : Nat) : (mixT A B j).Ok := by
  match j with
  | 0 => exact ha
  | 1 => exact ⟨hb.h, ha.s, ha.a⟩
  | 2 => exact ⟨hb.h, hb.s, ha.a⟩
  | j + 3 => exact hb
theorem replayF_runs {w0 : World} {S : St} {Q : AEnd → St → Prop} {c i g : Nat} {D : Dk} {s : List UInt8} {t tk : Tok} {X : CS} {T : Tm} {v : V} (h : CopyAt S c i g D s t tk X) (hv : IsBytes v (recB T)) (hT : T.Ok)
    (hQ : ∀ S', CAfter S c i g D t tk S' D t tk s { X with T := T } → Q (.ret (.bool true)) S') : RSim Tryd.prog w0 n_copy_Copy_replay [.ptr (some (c, 0)), v] S Q := by
  have rl := recB_len hT
  have hc := h.lt
  obtain ⟨tv, rfl, htv⟩ := id hv
  have htn : (tv = .nil) = False := eq_false fun e => by cases htv e
  have hpos : 1 ≤ (recB T).length := by simp [recB]
  have hne0 : (((recB T).length : Int) == 0) = false := by rw [beq_eq_false_iff_ne]; omega
  have hd : ((recB T).map u8V).drop (0 * 1) = .int .u8 70 :: ((recB T).map u8V).drop 1 := rfl
  have hlt : (0 < (recB T).length) = True := eq_true (by omega)
  refine RSim.run mixed k_copy_Copy_replay ?_ (by simp)
  simp only [b_copy_Copy_replay, go_sem, Nat.reduceEqDiff, Nat.reduceAdd, Nat.reduceMul, Nat.reduceSub, Nat.reduceLeDiff, Int.reduceBEq, Int.reduceBNe, Int.reduceLT, Int.reduceLE, Int.reduceGT, Int.reduceGE, Int.reduceEq, ↓reduceIte, reduceCtorEq, hne0]
  refine wc_ite (b := false) (by simp only [go_sem, Nat.reduceEqDiff, Nat.reduceAdd, Nat.reduceMul, Nat.reduceSub, Nat.reduceLeDiff, Int.reduceBEq, Int.reduceBNe, Int.reduceLT, Int.reduceLE, Int.reduceGT, Int.reduceGE, Int.reduceEq, ↓reduceIte, reduceCtorEq] <;> rfl) (fun h => by cases h) (fun _ => ?_)
  simp only [go_sem, Nat.reduceEqDiff, Nat.reduceAdd, Nat.reduceMul, Nat.reduceSub, Nat.reduceLeDiff, Int.reduceBEq, Int.reduceBNe, Int.reduceLT, Int.reduceLE, Int.reduceGT, Int.reduceGE, Int.reduceEq, ↓reduceIte, reduceCtorEq, hd, hlt, htn]
  refine wc_ite (b := false) (by simp only [go_sem, Nat.reduceEqDiff, Nat.reduceAdd, Nat.reduceMul, Nat.reduceSub, Nat.reduceLeDiff, Int.reduceBEq, Int.reduceBNe, Int.reduceLT, Int.reduceLE, Int.reduceGT, Int.reduceGE, Int.reduceEq, ↓reduceIte, reduceCtorEq] <;> rfl) (fun h => by cases h) (fun _ => ?_)
  simp only [go_sem, Nat.reduceEqDiff, Nat.reduceAdd, Nat.reduceMul, Nat.reduceSub, Nat.reduceLeDiff, Int.reduceBEq, Int.reduceBNe, Int.reduceLT, Int.reduceLE, Int.reduceGT, Int.reduceGE, Int.reduceEq, ↓reduceIte, reduceCtorEq]
  refine loop_rule RSim.le (k := 3) (fun m fr S1 => ∃ (j : Nat), m = 3 - j ∧ j ≤ 3 ∧ fr 1 = .sl ((recB T).map u8V) (recB T).length 1 tv ∧ fr 50 = .sl [.ptr (some (c, 2)), .ptr (some (c, 3)), .ptr (some (c, 4))] 3 1 .cap ∧ fr 51 = .int .i64 (3 : Int) ∧ fr 52 = .int .i64 (j : Nat) ∧ fr 7 = .int .i64 ((preB T j).length : Nat) ∧ CAfter S c i g D t tk S1 D t tk s { X with T := mixT X.T T j }) ?_
    ⟨0, rfl, by omega, by simp only [go_sem, Nat.reduceEqDiff, Nat.reduceAdd, Nat.reduceMul, Nat.reduceSub, Nat.reduceLeDiff, Int.reduceBEq, Int.reduceBNe, Int.reduceLT, Int.reduceLE, Int.reduceGT, Int.reduceGE, Int.reduceEq, ↓reduceIte, reduceCtorEq], by simp only [go_sem, Nat.reduceEqDiff, Nat.reduceAdd, Nat.reduceMul, Nat.reduceSub, Nat.reduceLeDiff, Int.reduceBEq, Int.reduceBNe, Int.reduceLT, Int.reduceLE, Int.reduceGT, Int.reduceGE, Int.reduceEq, ↓reduceIte, reduceCtorEq], by simp only [go_sem, Nat.reduceEqDiff, Nat.reduceAdd, Nat.reduceMul, Nat.reduceSub, Nat.reduceLeDiff, Int.reduceBEq, Int.reduceBNe, Int.reduceLT, Int.reduceLE, Int.reduceGT, Int.reduceGE, Int.reduceEq, ↓reduceIte, reduceCtorEq]; rfl, by simp only [go_sem, Nat.reduceEqDiff, Nat.reduceAdd, Nat.reduceMul, Nat.reduceSub, Nat.reduceLeDiff, Int.reduceBEq, Int.reduceBNe, Int.reduceLT, Int.reduceLE, Int.reduceGT, Int.reduceGE, Int.reduceEq, ↓reduceIte, reduceCtorEq]; rfl, by simp only [go_sem, Nat.reduceEqDiff, Nat.reduceAdd, Nat.reduceMul, Nat.reduceSub, Nat.reduceLeDiff, Int.reduceBEq, Int.reduceBNe, Int.reduceLT, Int.reduceLE, Int.reduceGT, Int.reduceGE, Int.reduceEq, ↓reduceIte, reduceCtorEq]; rfl, CAfter.refl h⟩
  rintro m fr S1 ⟨j, hm, hj, f1, f50, f51, f52, f7, hA⟩
  simp only [l_copy_Copy_replay_0, go_sem, Nat.reduceEqDiff, Nat.reduceAdd, Nat.reduceMul, Nat.reduceSub, Nat.reduceLeDiff, Int.reduceBEq, Int.reduceBNe, Int.reduceLT, Int.reduceLE, Int.reduceGT, Int.reduceGE, Int.reduceEq, ↓reduceIte, reduceCtorEq, f1, f50, f51, f52, f7]
  have ex1 := hA.w.ex
  refine wc_ite (b := decide ((j : Int) < 3)) (by simp only [go_sem, Nat.reduceEqDiff, Nat.reduceAdd, Nat.reduceMul, Nat.reduceSub, Nat.reduceLeDiff, Int.reduceBEq, Int.reduceBNe, Int.reduceLT, Int.reduceLE, Int.reduceGT, Int.reduceGE, Int.reduceEq, ↓reduceIte, reduceCtorEq]) (fun hc => ?_) (fun hc => ?_)
  · have hlt : j < 3 := by have := of_decide_eq_true hc; omega
    have w1 : IntKind.i64.wrap ((j : Int) + 1) = ((j + 1 : Nat) : Int) := by rw [w64 (by omega) (by omega)]; omega
    obtain ⟨x, rest, post, hx, hd2, hb, hp, hxe⟩ : ∃ (x : Nat) (rest : List V) (post : List UInt8), x < 18446744073709551616 ∧ [V.ptr (some (c, 2)), .ptr (some (c, 3)), .ptr (some (c, 4))].drop (j * 1) = .ptr (some (c, 2 + j)) :: rest ∧ recB T = preB T j ++ (uvar x ++ post) ∧ (preB T (j + 1)).length = (preB T j).length + (uvar x).length ∧ [T.h, T.s, T.a][j]? = some x := by
      match j, hlt with
      | 0, _ => exact ⟨T.h, _, uvar T.s ++ uvar T.a, hT.h, rfl, by simp [recB, preB], by simp [preB]; omega, rfl⟩
      | 1, _ => exact ⟨T.s, _, uvar T.a, hT.s, rfl, by simp [recB, preB], by simp [preB]; omega, rfl⟩
      | 2, _ => exact ⟨T.a, _, [], hT.a, rfl, by simp [recB, preB], by simp [preB]; omega, rfl⟩
    have hlt' : (j < 3) = True := eq_true hlt
    have hpl : (preB T j).length ≤ (recB T).length := by rw [hb]; simp
    simp only [go_sem, Nat.reduceEqDiff, Nat.reduceAdd, Nat.reduceMul, Nat.reduceSub, Nat.reduceLeDiff, Int.reduceBEq, Int.reduceBNe, Int.reduceLT, Int.reduceLE, Int.reduceGT, Int.reduceGE, Int.reduceEq, ↓reduceIte, reduceCtorEq, f1, f50, f51, f52, f7, hd2, hlt', List.head?_cons]
    refine wi_call ?_
    simp only [go_sem, Nat.reduceEqDiff, Nat.reduceAdd, Nat.reduceMul, Nat.reduceSub, Nat.reduceLeDiff, Int.reduceBEq, Int.reduceBNe, Int.reduceLT, Int.reduceLE, Int.reduceGT, Int.reduceGE, Int.reduceEq, ↓reduceIte, reduceCtorEq]
    refine readUvarint_runs hpl (by omega) htv (fun y k hr hy hk => ?_) fun hr => ?_
    · have hr' : ruv 0 0 ((recB T).drop (preB T j).length) = some (x, (uvar x).length) := by rw [hb, List.drop_left' rfl, ruv0 hx]
      rw [hr'] at hr
      injection hr with hr
      injection hr with hr1 hr2
      subst hr1; subst hr2
      simp only [go_sem, Nat.reduceEqDiff, Nat.reduceAdd, Nat.reduceMul, Nat.reduceSub, Nat.reduceLeDiff, Int.reduceBEq, Int.reduceBNe, Int.reduceLT, Int.reduceLE, Int.reduceGT, Int.reduceGE, Int.reduceEq, ↓reduceIte, reduceCtorEq]
      refine wc_ite (b := false) (by simp only [go_sem, Nat.reduceEqDiff, Nat.reduceAdd, Nat.reduceMul, Nat.reduceSub, Nat.reduceLeDiff, Int.reduceBEq, Int.reduceBNe, Int.reduceLT, Int.reduceLE, Int.reduceGT, Int.reduceGE, Int.reduceEq, ↓reduceIte, reduceCtorEq] <;> rfl) (fun h => by cases h) (fun _ => ?_)
      have h2 := hA.trans (hA.w.setT (mixT_ok h.ok.t hT (j + 1)) rfl)
      rw [← hp] at *
      obtain rfl | rfl | rfl : j = 0 ∨ j = 1 ∨ j = 2 := by omega
      all_goals
        simp only [List.getElem?_cons_zero, List.getElem?_cons_succ, Option.some.injEq] at hxe
        subst hxe
        simp only [go_sem, Nat.reduceEqDiff, Nat.reduceAdd, Nat.reduceMul, Nat.reduceSub, Nat.reduceLeDiff, Int.reduceBEq, Int.reduceBNe, Int.reduceLT, Int.reduceLE, Int.reduceGT, Int.reduceGE, Int.reduceEq, ↓reduceIte, reduceCtorEq, ex1, f1, f50, f51, f52, w1]
      · exact ⟨2, by omega, 1, rfl, by omega, rfl, rfl, h2⟩
      · exact ⟨1, by omega, 2, rfl, by omega, rfl, rfl, h2⟩
      · exact ⟨0, by omega, 3, rfl, by omega, rfl, rfl, h2⟩
    · rw [hb, List.drop_left' rfl, ruv0 hx] at hr
      cases hr
  · have : j = 3 := by have := of_decide_eq_false hc; omega
    subst this
    have e3 : preB T 3 = recB T := by simp [preB, recB]
    rw [e3] at f7
    simp only [go_sem, Nat.reduceEqDiff, Nat.reduceAdd, Nat.reduceMul, Nat.reduceSub, Nat.reduceLeDiff, Int.reduceBEq, Int.reduceBNe, Int.reduceLT, Int.reduceLE, Int.reduceGT, Int.reduceGE, Int.reduceEq, ↓reduceIte, reduceCtorEq, s_copy_Copy_replay_0, f7, f1, hd, hlt, htn, List.head?_cons]
    exact hQ S1 hA
end Go.VM
