/-
  A copy: record, mark, Hear, Serve. NEWPP
-/
import Derived.Test.YtegaflmefmlpgaaDoorCAt
set_option maxRecDepth 20000
set_option linter.unusedVariables false
set_option linter.unusedSimpArgs false
namespace Go.VM
open Go Go.RowKit Go.Proofs

theorem recB_len {T : Tm} (h : T.Ok) : (recB T).length ≤ 31 := by
  have := uvar_len10 h.h; have := uvar_len10 h.s; have := uvar_len10 h.a
  simp [recB]; omega
theorem record_runs {w0 : World} {S : St} {Q : AEnd → St → Prop} {T : Tm} (hT : T.Ok) (hQ : ∀ S' v', BT S S' v' (recB T) → Keeps (fun _ => False) S S' → Q (.ret v') S') : RSim Tryd.prog w0 n_copy_Terms_record [.agg T.v] S Q := by
  have l1 := uvar_len10 hT.h; have l2 := uvar_len10 hT.s; have l3 := uvar_len10 hT.a
  simp only [Tm.v]
  refine RSim.run mixed k_copy_Terms_record ?_ (by simp)
  simp only [b_copy_Terms_record, go_sem, Nat.reduceEqDiff, Nat.reduceAdd, Nat.reduceMul, Nat.reduceSub, Nat.reduceLeDiff, Int.reduceBEq, Int.reduceBNe, Int.reduceLT, Int.reduceLE, Int.reduceGT, Int.reduceGE, Int.reduceEq, ↓reduceIte, reduceCtorEq]
  have hfl : ∀ j, (([T.h, T.s, T.a].take j).flatMap uvar).length ≤ 30 := fun j => by
    match j with
    | 0 => simp
    | 1 => simp; omega
    | 2 => simp; omega
    | j + 3 => simp; omega
  refine loop_rule RSim.le (k := 3) (fun m fr S1 => ∃ (j : Nat) (v : V), m = 3 - j ∧ j ≤ 3 ∧ fr 13 = .sl [.int .u64 (T.h : Nat), .int .u64 (T.s : Nat), .int .u64 (T.a : Nat)] 3 1 .cap ∧ fr 14 = .int .i64 (3 : Int) ∧ fr 15 = .int .i64 (j : Nat) ∧ fr 3 = v ∧ BT S S1 v (70 :: ([T.h, T.s, T.a].take j).flatMap uvar) ∧ Keeps (fun _ => False) S S1) ?_
    ⟨0, .sl [.int .u8 70] 1 1 .cap, rfl, by omega, by simp only [go_sem, Nat.reduceEqDiff, Nat.reduceAdd, Nat.reduceMul, Nat.reduceSub, Nat.reduceLeDiff, Int.reduceBEq, Int.reduceBNe, Int.reduceLT, Int.reduceLE, Int.reduceGT, Int.reduceGE, Int.reduceEq, ↓reduceIte, reduceCtorEq], by simp only [go_sem, Nat.reduceEqDiff, Nat.reduceAdd, Nat.reduceMul, Nat.reduceSub, Nat.reduceLeDiff, Int.reduceBEq, Int.reduceBNe, Int.reduceLT, Int.reduceLE, Int.reduceGT, Int.reduceGE, Int.reduceEq, ↓reduceIte, reduceCtorEq]; rfl, by simp only [go_sem, Nat.reduceEqDiff, Nat.reduceAdd, Nat.reduceMul, Nat.reduceSub, Nat.reduceLeDiff, Int.reduceBEq, Int.reduceBNe, Int.reduceLT, Int.reduceLE, Int.reduceGT, Int.reduceGE, Int.reduceEq, ↓reduceIte, reduceCtorEq]; rfl, by simp only [go_sem, Nat.reduceEqDiff, Nat.reduceAdd, Nat.reduceMul, Nat.reduceSub, Nat.reduceLeDiff, Int.reduceBEq, Int.reduceBNe, Int.reduceLT, Int.reduceLE, Int.reduceGT, Int.reduceGE, Int.reduceEq, ↓reduceIte, reduceCtorEq], ⟨.cap, rfl, trivial, fun h => (by cases h), fun j h => (by cases h)⟩, (Keeps.refl _ S).add _⟩
  rintro m fr S1 ⟨j, v, hm, hj, f13, f14, f15, f3, hb, k1⟩
  simp only [l_copy_Terms_record_0, go_sem, Nat.reduceEqDiff, Nat.reduceAdd, Nat.reduceMul, Nat.reduceSub, Nat.reduceLeDiff, Int.reduceBEq, Int.reduceBNe, Int.reduceLT, Int.reduceLE, Int.reduceGT, Int.reduceGE, Int.reduceEq, ↓reduceIte, reduceCtorEq, f13, f14, f15]
  refine wc_ite (b := decide ((j : Int) < 3)) (by simp only [go_sem, Nat.reduceEqDiff, Nat.reduceAdd, Nat.reduceMul, Nat.reduceSub, Nat.reduceLeDiff, Int.reduceBEq, Int.reduceBNe, Int.reduceLT, Int.reduceLE, Int.reduceGT, Int.reduceGE, Int.reduceEq, ↓reduceIte, reduceCtorEq]) (fun hc => ?_) (fun hc => ?_)
  · have hlt : j < 3 := by have := of_decide_eq_true hc; omega
    have w1 : IntKind.i64.wrap ((j : Int) + 1) = ((j + 1 : Nat) : Int) := by rw [w64 (by omega) (by omega)]; omega
    obtain ⟨x, rest, hx, hd, ht⟩ : ∃ (x : Nat) (rest : List V), x < 18446744073709551616 ∧ [V.int .u64 (T.h : Nat), .int .u64 (T.s : Nat), .int .u64 (T.a : Nat)].drop (j * 1) = .int .u64 (x : Nat) :: rest ∧ [T.h, T.s, T.a].take (j + 1) = [T.h, T.s, T.a].take j ++ [x] := by
      match j, hlt with
      | 0, _ => exact ⟨T.h, _, hT.h, rfl, rfl⟩
      | 1, _ => exact ⟨T.s, _, hT.s, rfl, rfl⟩
      | 2, _ => exact ⟨T.a, _, hT.a, rfl, rfl⟩
    have hlt' : (j < 3) = True := eq_true hlt
    simp only [go_sem, Nat.reduceEqDiff, Nat.reduceAdd, Nat.reduceMul, Nat.reduceSub, Nat.reduceLeDiff, Int.reduceBEq, Int.reduceBNe, Int.reduceLT, Int.reduceLE, Int.reduceGT, Int.reduceGE, Int.reduceEq, ↓reduceIte, reduceCtorEq, f13, f14, f15, f3, hd, hlt', List.head?_cons]
    refine wi_call ?_
    simp only [go_sem, Nat.reduceEqDiff, Nat.reduceAdd, Nat.reduceMul, Nat.reduceSub, Nat.reduceLeDiff, Int.reduceBEq, Int.reduceBNe, Int.reduceLT, Int.reduceLE, Int.reduceGT, Int.reduceGE, Int.reduceEq, ↓reduceIte, reduceCtorEq]
    refine uvarint_own hx fun S2 v2 b2 k2 => ?_
    have hb := hb.keep k2
    have k2 := k1.trans k2 (fun _ _ => _root_.id)
    have lx := uvar_len10 hx
    have lf := hfl j
    simp only [go_sem, Nat.reduceEqDiff, Nat.reduceAdd, Nat.reduceMul, Nat.reduceSub, Nat.reduceLeDiff, Int.reduceBEq, Int.reduceBNe, Int.reduceLT, Int.reduceLE, Int.reduceGT, Int.reduceGE, Int.reduceEq, ↓reduceIte, reduceCtorEq]
    refine wi_appendBT (cs := uvar x) (by simp only [go_sem, Nat.reduceEqDiff, Nat.reduceAdd, Nat.reduceMul, Nat.reduceSub, Nat.reduceLeDiff, Int.reduceBEq, Int.reduceBNe, Int.reduceLT, Int.reduceLE, Int.reduceGT, Int.reduceGE, Int.reduceEq, ↓reduceIte, reduceCtorEq]) hb (by simp only [go_sem, Nat.reduceEqDiff, Nat.reduceAdd, Nat.reduceMul, Nat.reduceSub, Nat.reduceLeDiff, Int.reduceBEq, Int.reduceBNe, Int.reduceLT, Int.reduceLE, Int.reduceGT, Int.reduceGE, Int.reduceEq, ↓reduceIte, reduceCtorEq]; exact b2.is.elems _) (by simp only [List.length_cons]; omega) k2 fun v3 S3 k3 b3 _ => ?_
    simp only [go_sem, Nat.reduceEqDiff, Nat.reduceAdd, Nat.reduceMul, Nat.reduceSub, Nat.reduceLeDiff, Int.reduceBEq, Int.reduceBNe, Int.reduceLT, Int.reduceLE, Int.reduceGT, Int.reduceGE, Int.reduceEq, ↓reduceIte, reduceCtorEq, f13, f14, f15, w1]
    refine ⟨3 - (j + 1), by omega, j + 1, v3, rfl, by omega, rfl, rfl, ?_, k3⟩
    rw [ht, List.flatMap_append]
    simpa using b3
  · have : j = 3 := by have := of_decide_eq_false hc; omega
    subst this
    simp only [go_sem, Nat.reduceEqDiff, Nat.reduceAdd, Nat.reduceMul, Nat.reduceSub, Nat.reduceLeDiff, Int.reduceBEq, Int.reduceBNe, Int.reduceLT, Int.reduceLE, Int.reduceGT, Int.reduceGE, Int.reduceEq, ↓reduceIte, reduceCtorEq, f3]
    have e : 70 :: ([T.h, T.s, T.a].take 3).flatMap uvar = recB T := by simp [recB]
    rw [e] at hb
    exact hQ S1 v hb k1

def CS.mark (X : CS) (s : List UInt8) (T : Tm) : Int × CS :=
  if (X.D.grow s (frameB (recB T)) false).1 ≠ 0 then ((X.D.grow s (frameB (recB T)) false).1, { X with D := (X.D.grow s (frameB (recB T)) false).2 })
  else
    let B := (X.D.grow s (frameB (recB T)) false).2.syncL s (X.R ++ [recB T])
    (B.1, { X with D := B.2, R := X.R ++ [recB T], T := if B.1 = 0 then T else X.T })

theorem mark_runs {w0 : World} {S : St} {Q : AEnd → St → Prop} {c i g : Nat} {D : Dk} {s : List UInt8} {t tk : Tok} {X : CS} {T : Tm} (h : CopyAt S c i g D s t tk X) (hT : T.Ok) (hr : X.R.length < 1000000)
    (hQ : ∀ S' D' t' tk', CAfter S c i g D t tk S' D' t' tk' s (X.mark s T).2 → Q (.ret (.int .i64 (X.mark s T).1)) S') : RSim Tryd.prog w0 n_copy_Copy_mark [.ptr (some (c, 0)), .agg T.v] S Q := by
  have k0 : Keeps (fun _ => False) S (S.add (.cells T.v)) := (Keeps.refl _ S).add _
  have h0 := CAfter.new h k0
  have c0 : (S.add (.cells T.v)).cells S.n = some T.v := by rw [cells_addc, if_pos rfl]
  have l0 : S.n < (S.add (.cells T.v)).n := by rw [St.add_n]; omega
  have nc : ¬ ownC c i g D t tk S.n := fun hh => by have := h.own_lt hh; omega
  simp only [Tm.v] at *
  have ex := h.ex
  have hl := h.lt
  have hne : ¬ c = S.n := by omega
  refine RSim.run mixed k_copy_Copy_mark ?_ (by simp)
  simp only [b_copy_Copy_mark, go_sem, Nat.reduceEqDiff, Nat.reduceAdd, Nat.reduceMul, Nat.reduceSub, Nat.reduceLeDiff, Int.reduceBEq, Int.reduceBNe, Int.reduceLT, Int.reduceLE, Int.reduceGT, Int.reduceGE, Int.reduceEq, ↓reduceIte, reduceCtorEq, ex, hne]
  generalize S.add (.cells [.int .u64 (T.h : Nat), .int .u64 (T.s : Nat), .int .u64 (T.a : Nat)]) = S0 at *
  refine wi_call ?_
  simp only [go_sem, Nat.reduceEqDiff, Nat.reduceAdd, Nat.reduceMul, Nat.reduceSub, Nat.reduceLeDiff, Int.reduceBEq, Int.reduceBNe, Int.reduceLT, Int.reduceLE, Int.reduceGT, Int.reduceGE, Int.reduceEq, ↓reduceIte, reduceCtorEq]
  refine record_runs hT fun S1 v1 b1 k1 => ?_
  have h1 := h0.trans (CAfter.new h0.w k1)
  have c1 := k1.cells c0 l0 _root_.id
  have l1 := k1.lt l0
  have ex1 := h1.w.ex
  simp only [go_sem, Nat.reduceEqDiff, Nat.reduceAdd, Nat.reduceMul, Nat.reduceSub, Nat.reduceLeDiff, Int.reduceBEq, Int.reduceBNe, Int.reduceLT, Int.reduceLE, Int.reduceGT, Int.reduceGE, Int.reduceEq, ↓reduceIte, reduceCtorEq, ex1]
  refine wi_call ?_
  simp only [go_sem, Nat.reduceEqDiff, Nat.reduceAdd, Nat.reduceMul, Nat.reduceSub, Nat.reduceLeDiff, Int.reduceBEq, Int.reduceBNe, Int.reduceLT, Int.reduceLE, Int.reduceGT, Int.reduceGE, Int.reduceEq, ↓reduceIte, reduceCtorEq]
  refine logAppend_runs h1.w.w b1.is (by have := h1.w.ok.r; omega) (fun h => by have := recB_len hT; omega) (fun S2 D2 _ W a hne' => ?_) fun S2 D2 t2 _ W a he => ?_
  · have h2 := h1.trans (h1.w.wal W h1.w.ok.r)
    unfold CS.mark at hQ
    rw [h.d, if_pos hne'] at hQ
    have e1 : ((D.abs.grow s (frameB (recB T)) false).1 == 0) = false := by simpa using hne'
    simp only [go_sem, Nat.reduceEqDiff, Nat.reduceAdd, Nat.reduceMul, Nat.reduceSub, Nat.reduceLeDiff, Int.reduceBEq, Int.reduceBNe, Int.reduceLT, Int.reduceLE, Int.reduceGT, Int.reduceGE, Int.reduceEq, ↓reduceIte, reduceCtorEq, e1]
    refine wc_ite (b := false) (by simp only [go_sem, Nat.reduceEqDiff, Nat.reduceAdd, Nat.reduceMul, Nat.reduceSub, Nat.reduceLeDiff, Int.reduceBEq, Int.reduceBNe, Int.reduceLT, Int.reduceLE, Int.reduceGT, Int.reduceGE, Int.reduceEq, ↓reduceIte, reduceCtorEq] <;> rfl) (fun h => by cases h) (fun _ => ?_)
    simp only [go_sem, Nat.reduceEqDiff, Nat.reduceAdd, Nat.reduceMul, Nat.reduceSub, Nat.reduceLeDiff, Int.reduceBEq, Int.reduceBNe, Int.reduceLT, Int.reduceLE, Int.reduceGT, Int.reduceGE, Int.reduceEq, ↓reduceIte, reduceCtorEq, e1]
    refine wc_ite (b := false) (by simp only [go_sem, Nat.reduceEqDiff, Nat.reduceAdd, Nat.reduceMul, Nat.reduceSub, Nat.reduceLeDiff, Int.reduceBEq, Int.reduceBNe, Int.reduceLT, Int.reduceLE, Int.reduceGT, Int.reduceGE, Int.reduceEq, ↓reduceIte, reduceCtorEq] <;> rfl) (fun h => by cases h) (fun _ => ?_)
    simp only [go_sem, Nat.reduceEqDiff, Nat.reduceAdd, Nat.reduceMul, Nat.reduceSub, Nat.reduceLeDiff, Int.reduceBEq, Int.reduceBNe, Int.reduceLT, Int.reduceLE, Int.reduceGT, Int.reduceGE, Int.reduceEq, ↓reduceIte, reduceCtorEq]
    rw [← a] at hQ
    exact hQ S2 D2 t tk h2
  · have h2 := h1.trans (h1.w.wal W (by simp; omega))
    have nw : ∀ {D' : Dk} {t' : Tok} {S' : St}, (∀ j, ownC c i g D' t' tk j → ownC c i g D t tk j ∨ S'.n ≤ j) → S.n < S'.n → ¬ ownW i g D' t' S.n := fun o hl ho => by
      rcases o S.n (.inl ho) with h | h
      · exact nc h
      · omega
    have c2 := W.k.cells c1 l1 (fun ho => nc (.inl ho))
    have ex2 := h2.w.ex
    have l2 := W.k.lt l1
    unfold CS.mark at hQ
    rw [h.d, if_neg (by rw [he]; simp)] at hQ
    simp only [go_sem, Nat.reduceEqDiff, Nat.reduceAdd, Nat.reduceMul, Nat.reduceSub, Nat.reduceLeDiff, Int.reduceBEq, Int.reduceBNe, Int.reduceLT, Int.reduceLE, Int.reduceGT, Int.reduceGE, Int.reduceEq, ↓reduceIte, reduceCtorEq]
    refine wc_ite (b := true) (by simp only [go_sem, Nat.reduceEqDiff, Nat.reduceAdd, Nat.reduceMul, Nat.reduceSub, Nat.reduceLeDiff, Int.reduceBEq, Int.reduceBNe, Int.reduceLT, Int.reduceLE, Int.reduceGT, Int.reduceGE, Int.reduceEq, ↓reduceIte, reduceCtorEq] <;> rfl) (fun _ => ?_) (fun h => by cases h)
    simp only [go_sem, Nat.reduceEqDiff, Nat.reduceAdd, Nat.reduceMul, Nat.reduceSub, Nat.reduceLeDiff, Int.reduceBEq, Int.reduceBNe, Int.reduceLT, Int.reduceLE, Int.reduceGT, Int.reduceGE, Int.reduceEq, ↓reduceIte, reduceCtorEq, ex2]
    refine wi_call ?_
    simp only [go_sem, Nat.reduceEqDiff, Nat.reduceAdd, Nat.reduceMul, Nat.reduceSub, Nat.reduceLeDiff, Int.reduceBEq, Int.reduceBNe, Int.reduceLT, Int.reduceLE, Int.reduceGT, Int.reduceGE, Int.reduceEq, ↓reduceIte, reduceCtorEq]
    refine logSync_runs h2.w.w fun S3 D3 W3 a3 => ?_
    have h3 := h2.trans (h2.w.wal W3 h2.w.ok.r)
    have ex3 := h3.w.ex
    have n2 : ¬ ownW i g D2 t2 S.n := fun ho => by
      rcases W.o S.n ho with h | h
      · exact nc (.inl h)
      · omega
    have c3 := W3.k.cells c2 l2 n2
    rw [← a] at hQ
    simp only at hQ a3 h3 ex3 ⊢
    generalize hB : D2.abs.syncL s (X.R ++ [recB T]) = B at *
    obtain ⟨e, DB⟩ := B
    simp only at hQ a3 ⊢
    subst a3
    by_cases e0 : e = 0
    · subst e0
      have h4 := h3.trans (h3.w.setT hT rfl)
      rw [if_pos rfl] at hQ
      simp only [go_sem, Nat.reduceEqDiff, Nat.reduceAdd, Nat.reduceMul, Nat.reduceSub, Nat.reduceLeDiff, Int.reduceBEq, Int.reduceBNe, Int.reduceLT, Int.reduceLE, Int.reduceGT, Int.reduceGE, Int.reduceEq, ↓reduceIte, reduceCtorEq]
      refine wc_ite (b := true) (by simp only [go_sem, Nat.reduceEqDiff, Nat.reduceAdd, Nat.reduceMul, Nat.reduceSub, Nat.reduceLeDiff, Int.reduceBEq, Int.reduceBNe, Int.reduceLT, Int.reduceLE, Int.reduceGT, Int.reduceGE, Int.reduceEq, ↓reduceIte, reduceCtorEq] <;> rfl) (fun _ => ?_) (fun h => by cases h)
      simp only [go_sem, Nat.reduceEqDiff, Nat.reduceAdd, Nat.reduceMul, Nat.reduceSub, Nat.reduceLeDiff, Int.reduceBEq, Int.reduceBNe, Int.reduceLT, Int.reduceLE, Int.reduceGT, Int.reduceGE, Int.reduceEq, ↓reduceIte, reduceCtorEq, c3, ex3]
      exact hQ _ D3 t2 tk h4
    · have e1 : (e == 0) = false := by simpa using e0
      rw [if_neg e0] at hQ
      simp only [go_sem, Nat.reduceEqDiff, Nat.reduceAdd, Nat.reduceMul, Nat.reduceSub, Nat.reduceLeDiff, Int.reduceBEq, Int.reduceBNe, Int.reduceLT, Int.reduceLE, Int.reduceGT, Int.reduceGE, Int.reduceEq, ↓reduceIte, reduceCtorEq, e1]
      refine wc_ite (b := false) (by simp only [go_sem, Nat.reduceEqDiff, Nat.reduceAdd, Nat.reduceMul, Nat.reduceSub, Nat.reduceLeDiff, Int.reduceBEq, Int.reduceBNe, Int.reduceLT, Int.reduceLE, Int.reduceGT, Int.reduceGE, Int.reduceEq, ↓reduceIte, reduceCtorEq] <;> rfl) (fun h => by cases h) (fun _ => ?_)
      simp only [go_sem, Nat.reduceEqDiff, Nat.reduceAdd, Nat.reduceMul, Nat.reduceSub, Nat.reduceLeDiff, Int.reduceBEq, Int.reduceBNe, Int.reduceLT, Int.reduceLE, Int.reduceGT, Int.reduceGE, Int.reduceEq, ↓reduceIte, reduceCtorEq]
      exact hQ S3 D3 t2 tk h3

def CS.hear (X : CS) (s : List UInt8) (t : Nat) : Int × CS := if t < X.T.h then (12, X) else if t = X.T.h then (0, X) else X.mark s ⟨t, X.T.s, X.T.a⟩
def CS.serve (X : CS) (s : List UInt8) (t : Nat) : Int × CS := if t < X.T.h ∨ t ≤ X.T.s then (12, X) else X.mark s ⟨t, t, t⟩

theorem hear_runs {w0 : World} {S : St} {Q : AEnd → St → Prop} {c i g : Nat} {D : Dk} {s : List UInt8} {t tk : Tok} {X : CS} {n : Nat} (h : CopyAt S c i g D s t tk X) (hn : n < 18446744073709551616) (hr : X.R.length < 1000000)
    (hQ : ∀ S' D' t' tk', CAfter S c i g D t tk S' D' t' tk' s (X.hear s n).2 → Q (.ret (.int .i64 (X.hear s n).1)) S') : RSim Tryd.prog w0 n_copy_Copy_Hear [.ptr (some (c, 0)), .int .u64 n] S Q := by
  have ex := h.ex
  have hl := h.lt
  have hne : ¬ c = S.n := by omega
  unfold CS.hear at hQ
  refine RSim.run mixed k_copy_Copy_Hear ?_ (by simp)
  simp only [b_copy_Copy_Hear, go_sem, Nat.reduceEqDiff, Nat.reduceAdd, Nat.reduceMul, Nat.reduceSub, Nat.reduceLeDiff, Int.reduceBEq, Int.reduceBNe, Int.reduceLT, Int.reduceLE, Int.reduceGT, Int.reduceGE, Int.reduceEq, ↓reduceIte, reduceCtorEq]
  refine wc_ite (b := false) (by simp only [go_sem, Nat.reduceEqDiff, Nat.reduceAdd, Nat.reduceMul, Nat.reduceSub, Nat.reduceLeDiff, Int.reduceBEq, Int.reduceBNe, Int.reduceLT, Int.reduceLE, Int.reduceGT, Int.reduceGE, Int.reduceEq, ↓reduceIte, reduceCtorEq] <;> rfl) (fun h => by cases h) (fun _ => ?_)
  simp only [go_sem, Nat.reduceEqDiff, Nat.reduceAdd, Nat.reduceMul, Nat.reduceSub, Nat.reduceLeDiff, Int.reduceBEq, Int.reduceBNe, Int.reduceLT, Int.reduceLE, Int.reduceGT, Int.reduceGE, Int.reduceEq, ↓reduceIte, reduceCtorEq, ex]
  have q1 : decide ((n : Int) < (X.T.h : Int)) = decide (n < X.T.h) := decide_eq_decide.mpr (by omega)
  have q2 : ((n : Int) == (X.T.h : Int)) = decide (n = X.T.h) := by rw [Bool.eq_iff_iff, beq_iff_eq, decide_eq_true_iff]; omega
  simp only [go_sem, Nat.reduceEqDiff, Nat.reduceAdd, Nat.reduceMul, Nat.reduceSub, Nat.reduceLeDiff, Int.reduceBEq, Int.reduceBNe, Int.reduceLT, Int.reduceLE, Int.reduceGT, Int.reduceGE, Int.reduceEq, ↓reduceIte, reduceCtorEq, q1]
  refine wc_ite (b := decide (n < X.T.h)) (by simp only [go_sem, Nat.reduceEqDiff, Nat.reduceAdd, Nat.reduceMul, Nat.reduceSub, Nat.reduceLeDiff, Int.reduceBEq, Int.reduceBNe, Int.reduceLT, Int.reduceLE, Int.reduceGT, Int.reduceGE, Int.reduceEq, ↓reduceIte, reduceCtorEq]) (fun hc => ?_) (fun hc => ?_)
  · have hlt := of_decide_eq_true hc
    rw [if_pos hlt] at hQ
    simp only [go_sem, Nat.reduceEqDiff, Nat.reduceAdd, Nat.reduceMul, Nat.reduceSub, Nat.reduceLeDiff, Int.reduceBEq, Int.reduceBNe, Int.reduceLT, Int.reduceLE, Int.reduceGT, Int.reduceGE, Int.reduceEq, ↓reduceIte, reduceCtorEq]
    exact hQ S D t tk (CAfter.refl h)
  · have hlt := of_decide_eq_false hc
    rw [if_neg hlt] at hQ
    simp only [go_sem, Nat.reduceEqDiff, Nat.reduceAdd, Nat.reduceMul, Nat.reduceSub, Nat.reduceLeDiff, Int.reduceBEq, Int.reduceBNe, Int.reduceLT, Int.reduceLE, Int.reduceGT, Int.reduceGE, Int.reduceEq, ↓reduceIte, reduceCtorEq, ex, q2]
    refine wc_ite (b := decide (n = X.T.h)) (by simp only [go_sem, Nat.reduceEqDiff, Nat.reduceAdd, Nat.reduceMul, Nat.reduceSub, Nat.reduceLeDiff, Int.reduceBEq, Int.reduceBNe, Int.reduceLT, Int.reduceLE, Int.reduceGT, Int.reduceGE, Int.reduceEq, ↓reduceIte, reduceCtorEq]) (fun hc => ?_) (fun hc => ?_)
    · have heq := of_decide_eq_true hc
      rw [if_pos heq] at hQ
      simp only [go_sem, Nat.reduceEqDiff, Nat.reduceAdd, Nat.reduceMul, Nat.reduceSub, Nat.reduceLeDiff, Int.reduceBEq, Int.reduceBNe, Int.reduceLT, Int.reduceLE, Int.reduceGT, Int.reduceGE, Int.reduceEq, ↓reduceIte, reduceCtorEq]
      exact hQ S D t tk (CAfter.refl h)
    · have heq := of_decide_eq_false hc
      rw [if_neg heq] at hQ
      simp only [go_sem, Nat.reduceEqDiff, Nat.reduceAdd, Nat.reduceMul, Nat.reduceSub, Nat.reduceLeDiff, Int.reduceBEq, Int.reduceBNe, Int.reduceLT, Int.reduceLE, Int.reduceGT, Int.reduceGE, Int.reduceEq, ↓reduceIte, reduceCtorEq, s_copy_Copy_Hear_0, ex, hne]
      refine wi_call ?_
      simp only [go_sem, Nat.reduceEqDiff, Nat.reduceAdd, Nat.reduceMul, Nat.reduceSub, Nat.reduceLeDiff, Int.reduceBEq, Int.reduceBNe, Int.reduceLT, Int.reduceLE, Int.reduceGT, Int.reduceGE, Int.reduceEq, ↓reduceIte, reduceCtorEq]
      have h1 := fun {S'} (k : Keeps (fun _ => False) S S') => CAfter.new h k
      refine mark_runs (T := ⟨n, X.T.s, X.T.a⟩) (h1 (((Keeps.refl _ S).add _).set (.inr (Nat.le_refl _)) _)).w ⟨hn, h.ok.t.s, h.ok.t.a⟩ hr fun S' D' t' tk' a => ?_
      simp only [go_sem, Nat.reduceEqDiff, Nat.reduceAdd, Nat.reduceMul, Nat.reduceSub, Nat.reduceLeDiff, Int.reduceBEq, Int.reduceBNe, Int.reduceLT, Int.reduceLE, Int.reduceGT, Int.reduceGE, Int.reduceEq, ↓reduceIte, reduceCtorEq]
      exact hQ S' D' t' tk' ((h1 (((Keeps.refl _ S).add _).set (.inr (Nat.le_refl _)) _)).trans a)

theorem serve_runs {w0 : World} {S : St} {Q : AEnd → St → Prop} {c i g : Nat} {D : Dk} {s : List UInt8} {t tk : Tok} {X : CS} {n : Nat} (h : CopyAt S c i g D s t tk X) (hn : n < 18446744073709551616) (hr : X.R.length < 1000000)
    (hQ : ∀ S' D' t' tk', CAfter S c i g D t tk S' D' t' tk' s (X.serve s n).2 → Q (.ret (.int .i64 (X.serve s n).1)) S') : RSim Tryd.prog w0 n_copy_Copy_Serve [.ptr (some (c, 0)), .int .u64 n] S Q := by
  have ex := h.ex
  have hl := h.lt
  unfold CS.serve at hQ
  refine RSim.run mixed k_copy_Copy_Serve ?_ (by simp)
  simp only [b_copy_Copy_Serve, go_sem, Nat.reduceEqDiff, Nat.reduceAdd, Nat.reduceMul, Nat.reduceSub, Nat.reduceLeDiff, Int.reduceBEq, Int.reduceBNe, Int.reduceLT, Int.reduceLE, Int.reduceGT, Int.reduceGE, Int.reduceEq, ↓reduceIte, reduceCtorEq]
  refine wc_ite (b := false) (by simp only [go_sem, Nat.reduceEqDiff, Nat.reduceAdd, Nat.reduceMul, Nat.reduceSub, Nat.reduceLeDiff, Int.reduceBEq, Int.reduceBNe, Int.reduceLT, Int.reduceLE, Int.reduceGT, Int.reduceGE, Int.reduceEq, ↓reduceIte, reduceCtorEq] <;> rfl) (fun h => by cases h) (fun _ => ?_)
  have q1 : decide ((n : Int) < (X.T.h : Int)) = decide (n < X.T.h) := decide_eq_decide.mpr (by omega)
  have q2 : decide ((n : Int) ≤ (X.T.s : Int)) = decide (n ≤ X.T.s) := decide_eq_decide.mpr (by omega)
  by_cases hbad : n < X.T.h ∨ n ≤ X.T.s
  · rw [if_pos hbad] at hQ
    by_cases h1 : n < X.T.h
    · rw [decide_eq_true h1] at q1
      simp only [go_sem, Nat.reduceEqDiff, Nat.reduceAdd, Nat.reduceMul, Nat.reduceSub, Nat.reduceLeDiff, Int.reduceBEq, Int.reduceBNe, Int.reduceLT, Int.reduceLE, Int.reduceGT, Int.reduceGE, Int.reduceEq, ↓reduceIte, reduceCtorEq, ex, q1]
      refine wc_ite (b := true) (by simp only [go_sem, Nat.reduceEqDiff, Nat.reduceAdd, Nat.reduceMul, Nat.reduceSub, Nat.reduceLeDiff, Int.reduceBEq, Int.reduceBNe, Int.reduceLT, Int.reduceLE, Int.reduceGT, Int.reduceGE, Int.reduceEq, ↓reduceIte, reduceCtorEq] <;> rfl) (fun _ => ?_) (fun h => by cases h)
      simp only [go_sem, Nat.reduceEqDiff, Nat.reduceAdd, Nat.reduceMul, Nat.reduceSub, Nat.reduceLeDiff, Int.reduceBEq, Int.reduceBNe, Int.reduceLT, Int.reduceLE, Int.reduceGT, Int.reduceGE, Int.reduceEq, ↓reduceIte, reduceCtorEq]
      exact hQ S D t tk (CAfter.refl h)
    · rw [decide_eq_false h1] at q1
      rw [decide_eq_true (hbad.resolve_left h1)] at q2
      simp only [go_sem, Nat.reduceEqDiff, Nat.reduceAdd, Nat.reduceMul, Nat.reduceSub, Nat.reduceLeDiff, Int.reduceBEq, Int.reduceBNe, Int.reduceLT, Int.reduceLE, Int.reduceGT, Int.reduceGE, Int.reduceEq, ↓reduceIte, reduceCtorEq, ex, q1, q2]
      refine wc_ite (b := true) (by simp only [go_sem, Nat.reduceEqDiff, Nat.reduceAdd, Nat.reduceMul, Nat.reduceSub, Nat.reduceLeDiff, Int.reduceBEq, Int.reduceBNe, Int.reduceLT, Int.reduceLE, Int.reduceGT, Int.reduceGE, Int.reduceEq, ↓reduceIte, reduceCtorEq] <;> rfl) (fun _ => ?_) (fun h => by cases h)
      simp only [go_sem, Nat.reduceEqDiff, Nat.reduceAdd, Nat.reduceMul, Nat.reduceSub, Nat.reduceLeDiff, Int.reduceBEq, Int.reduceBNe, Int.reduceLT, Int.reduceLE, Int.reduceGT, Int.reduceGE, Int.reduceEq, ↓reduceIte, reduceCtorEq]
      exact hQ S D t tk (CAfter.refl h)
  · rw [if_neg hbad] at hQ
    rw [decide_eq_false fun h => hbad (.inl h)] at q1
    rw [decide_eq_false fun h => hbad (.inr h)] at q2
    simp only [go_sem, Nat.reduceEqDiff, Nat.reduceAdd, Nat.reduceMul, Nat.reduceSub, Nat.reduceLeDiff, Int.reduceBEq, Int.reduceBNe, Int.reduceLT, Int.reduceLE, Int.reduceGT, Int.reduceGE, Int.reduceEq, ↓reduceIte, reduceCtorEq, ex, q1, q2]
    refine wc_ite (b := false) (by simp only [go_sem, Nat.reduceEqDiff, Nat.reduceAdd, Nat.reduceMul, Nat.reduceSub, Nat.reduceLeDiff, Int.reduceBEq, Int.reduceBNe, Int.reduceLT, Int.reduceLE, Int.reduceGT, Int.reduceGE, Int.reduceEq, ↓reduceIte, reduceCtorEq] <;> rfl) (fun h => by cases h) (fun _ => ?_)
    simp only [go_sem, Nat.reduceEqDiff, Nat.reduceAdd, Nat.reduceMul, Nat.reduceSub, Nat.reduceLeDiff, Int.reduceBEq, Int.reduceBNe, Int.reduceLT, Int.reduceLE, Int.reduceGT, Int.reduceGE, Int.reduceEq, ↓reduceIte, reduceCtorEq, s_copy_Copy_Serve_0]
    refine wi_call ?_
    simp only [go_sem, Nat.reduceEqDiff, Nat.reduceAdd, Nat.reduceMul, Nat.reduceSub, Nat.reduceLeDiff, Int.reduceBEq, Int.reduceBNe, Int.reduceLT, Int.reduceLE, Int.reduceGT, Int.reduceGE, Int.reduceEq, ↓reduceIte, reduceCtorEq]
    refine mark_runs (T := ⟨n, n, n⟩) h ⟨hn, hn, hn⟩ hr fun S' D' t' tk' a => ?_
    simp only [go_sem, Nat.reduceEqDiff, Nat.reduceAdd, Nat.reduceMul, Nat.reduceSub, Nat.reduceLeDiff, Int.reduceBEq, Int.reduceBNe, Int.reduceLT, Int.reduceLE, Int.reduceGT, Int.reduceGE, Int.reduceEq, ↓reduceIte, reduceCtorEq]
    exact hQ S' D' t' tk' a
theorem hear_nil {w0 : World} {S : St} {Q : AEnd → St → Prop} {v : V} (hQ : Q (.ret (.int .i64 8)) S) : RSim Tryd.prog w0 n_copy_Copy_Hear [.ptr none, v] S Q := by
  refine RSim.run mixed k_copy_Copy_Hear ?_ (by simp)
  simp only [b_copy_Copy_Hear, go_sem, Nat.reduceEqDiff, Nat.reduceAdd, Nat.reduceMul, Nat.reduceSub, Nat.reduceLeDiff, Int.reduceBEq, Int.reduceBNe, Int.reduceLT, Int.reduceLE, Int.reduceGT, Int.reduceGE, Int.reduceEq, ↓reduceIte, reduceCtorEq]
  refine wc_ite (b := true) (by simp only [go_sem, Nat.reduceEqDiff, Nat.reduceAdd, Nat.reduceMul, Nat.reduceSub, Nat.reduceLeDiff, Int.reduceBEq, Int.reduceBNe, Int.reduceLT, Int.reduceLE, Int.reduceGT, Int.reduceGE, Int.reduceEq, ↓reduceIte, reduceCtorEq] <;> rfl) (fun _ => ?_) (fun h => by cases h)
  simp only [go_sem, Nat.reduceEqDiff, Nat.reduceAdd, Nat.reduceMul, Nat.reduceSub, Nat.reduceLeDiff, Int.reduceBEq, Int.reduceBNe, Int.reduceLT, Int.reduceLE, Int.reduceGT, Int.reduceGE, Int.reduceEq, ↓reduceIte, reduceCtorEq]
  exact hQ
theorem serve_nil {w0 : World} {S : St} {Q : AEnd → St → Prop} {v : V} (hQ : Q (.ret (.int .i64 8)) S) : RSim Tryd.prog w0 n_copy_Copy_Serve [.ptr none, v] S Q := by
  refine RSim.run mixed k_copy_Copy_Serve ?_ (by simp)
  simp only [b_copy_Copy_Serve, go_sem, Nat.reduceEqDiff, Nat.reduceAdd, Nat.reduceMul, Nat.reduceSub, Nat.reduceLeDiff, Int.reduceBEq, Int.reduceBNe, Int.reduceLT, Int.reduceLE, Int.reduceGT, Int.reduceGE, Int.reduceEq, ↓reduceIte, reduceCtorEq]
  refine wc_ite (b := true) (by simp only [go_sem, Nat.reduceEqDiff, Nat.reduceAdd, Nat.reduceMul, Nat.reduceSub, Nat.reduceLeDiff, Int.reduceBEq, Int.reduceBNe, Int.reduceLT, Int.reduceLE, Int.reduceGT, Int.reduceGE, Int.reduceEq, ↓reduceIte, reduceCtorEq] <;> rfl) (fun _ => ?_) (fun h => by cases h)
  simp only [go_sem, Nat.reduceEqDiff, Nat.reduceAdd, Nat.reduceMul, Nat.reduceSub, Nat.reduceLeDiff, Int.reduceBEq, Int.reduceBNe, Int.reduceLT, Int.reduceLE, Int.reduceGT, Int.reduceGE, Int.reduceEq, ↓reduceIte, reduceCtorEq]
  exact hQ
theorem capp_nil {w0 : World} {S : St} {Q : AEnd → St → Prop} {o : Op} (hQ : ∀ S', Keeps (fun _ => False) S S' → Q (.ret (.int .i64 8)) S') : RSim Tryd.prog w0 n_copy_Copy_Append [.ptr none, .agg o.v] S Q := by
  simp only [Op.v, Dc.v]
  refine RSim.run mixed k_copy_Copy_Append ?_ (by simp)
  simp only [b_copy_Copy_Append, go_sem, Nat.reduceEqDiff, Nat.reduceAdd, Nat.reduceMul, Nat.reduceSub, Nat.reduceLeDiff, Int.reduceBEq, Int.reduceBNe, Int.reduceLT, Int.reduceLE, Int.reduceGT, Int.reduceGE, Int.reduceEq, ↓reduceIte, reduceCtorEq]
  refine wc_ite (b := true) (by simp only [go_sem, Nat.reduceEqDiff, Nat.reduceAdd, Nat.reduceMul, Nat.reduceSub, Nat.reduceLeDiff, Int.reduceBEq, Int.reduceBNe, Int.reduceLT, Int.reduceLE, Int.reduceGT, Int.reduceGE, Int.reduceEq, ↓reduceIte, reduceCtorEq] <;> rfl) (fun _ => ?_) (fun h => by cases h)
  simp only [go_sem, Nat.reduceEqDiff, Nat.reduceAdd, Nat.reduceMul, Nat.reduceSub, Nat.reduceLeDiff, Int.reduceBEq, Int.reduceBNe, Int.reduceLT, Int.reduceLE, Int.reduceGT, Int.reduceGE, Int.reduceEq, ↓reduceIte, reduceCtorEq]
  exact hQ _ ((Keeps.refl _ S).add _)
theorem adopt_nil {w0 : World} {S : St} {Q : AEnd → St → Prop} {u v : V} (hQ : Q (.ret (.int .i64 8)) S) : RSim Tryd.prog w0 n_copy_Copy_Adopt [.ptr none, u, v] S Q := by
  refine RSim.run mixed k_copy_Copy_Adopt ?_ (by simp)
  simp only [b_copy_Copy_Adopt, go_sem, Nat.reduceEqDiff, Nat.reduceAdd, Nat.reduceMul, Nat.reduceSub, Nat.reduceLeDiff, Int.reduceBEq, Int.reduceBNe, Int.reduceLT, Int.reduceLE, Int.reduceGT, Int.reduceGE, Int.reduceEq, ↓reduceIte, reduceCtorEq]
  refine wc_ite (b := true) (by simp only [go_sem, Nat.reduceEqDiff, Nat.reduceAdd, Nat.reduceMul, Nat.reduceSub, Nat.reduceLeDiff, Int.reduceBEq, Int.reduceBNe, Int.reduceLT, Int.reduceLE, Int.reduceGT, Int.reduceGE, Int.reduceEq, ↓reduceIte, reduceCtorEq] <;> rfl) (fun _ => ?_) (fun h => by cases h)
  simp only [go_sem, Nat.reduceEqDiff, Nat.reduceAdd, Nat.reduceMul, Nat.reduceSub, Nat.reduceLeDiff, Int.reduceBEq, Int.reduceBNe, Int.reduceLT, Int.reduceLE, Int.reduceGT, Int.reduceGE, Int.reduceEq, ↓reduceIte, reduceCtorEq]
  exact hQ
end Go.VM
