/-
  A copy: Append. NEWPP
-/
import Derived.Test.YtegaflmefmlpgaaDoorCMark
set_option maxRecDepth 20000
set_option linter.unusedVariables false
set_option linter.unusedSimpArgs false
namespace Go.VM
open Go Go.RowKit Go.Proofs

theorem entB_len {o : Op} (ho : o.Ok) (hf : o.d.form = true) : (entB o).length ≤ 600 := by
  unfold Dc.form at hf
  simp only [Bool.and_eq_true, decide_eq_true_eq] at hf
  have u1 := uvar_len10 ho.t
  have u2 := uvar_len10 (v := o.d.id.length) (by omega)
  have u3 := uvar_len10 (zig_lt ho.d.lo ho.d.hi)
  have u4 := uvar_len10 (v := o.d.tx.length) (by omega)
  simp only [entB, encB, List.length_cons, List.length_append, textB_len]
  omega
def CS.app (X : CS) (s : List UInt8) (o : Op) : Int × CS :=
  if o.d.form = false then (3, X) else if o.t ≠ X.T.h ∨ o.t ≠ X.T.a then (12, X)
  else if (X.D.grow s (frameB (entB o)) false).1 ≠ 0 then ((X.D.grow s (frameB (entB o)) false).1, { X with D := (X.D.grow s (frameB (entB o)) false).2 })
  else
    let B := (X.D.grow s (frameB (entB o)) false).2.syncL s (X.R ++ [entB o])
    (B.1, { X with D := B.2, R := X.R ++ [entB o], L := if B.1 = 0 then X.L ++ [o] else X.L })

/-- The entries are others. -/
theorem CopyAt.setL {S S4 : St} {c i g : Nat} {D : Dk} {s : List UInt8} {t tk tk4 : Tok} {X : CS} {L : List Op} (h : CopyAt S c i g D s t tk X) (k : Keeps (tokOwn tk) S S4) (ht : TokOk S4 tk4) (hn : ∀ j, tk4 = .at j → S.n ≤ j) (hz : tk4 = .nil → L = [])
    (hL : ∀ o ∈ L, o.Ok) (hl : L.length ≤ 1000000) {cs : List V} (hcs : cs = [.ptr (some (g, 0)), opsV L tk4, .int .u64 (X.T.h : Nat), .int .u64 (X.T.s : Nat), .int .u64 (X.T.a : Nat)]) :
    CAfter S c i g D t tk (S4.set c (.cells cs)) D t tk4 s { X with L := L } := by
  subst hcs
  have hc := h.lt
  have k1 := Keeps.set1 S4 c (.cells [.ptr (some (g, 0)), opsV L tk4, .int .u64 (X.T.h : Nat), .int .u64 (X.T.s : Nat), .int .u64 (X.T.a : Nat)])
  have kk : Keeps (fun j => j = c ∨ tk = .at j) S (S4.set c (.cells [.ptr (some (g, 0)), opsV L tk4, .int .u64 (X.T.h : Nat), .int .u64 (X.T.s : Nat), .int .u64 (X.T.a : Nat)])) :=
    (k.mono fun j _ (hj : tokOwn tk j) => by cases tk <;> simp [tokOwn] at hj; exact .inr (by rw [hj])).set (.inl (.inl rfl)) _
  have hw := h.w.keep kk fun j hj e => h.no j e hj
  refine ⟨⟨hw, h.d, by rw [cells_setc, if_pos rfl], hz, kk.lt hc, ht.keep k1 fun j hj e => by have := hn j hj; omega, fun j hj ho => ?_, ⟨h.ok.t, hL, hl, h.ok.r⟩⟩, kk.mono fun _ _ e => .inr e, fun j hj => ?_⟩
  · rcases hj with rfl | hj
    · exact h.no j (.inl rfl) ho
    · have := hn j hj
      have := h.w.own_lt ho
      omega
  · rcases hj with hj | rfl | hj
    · exact .inl (.inl hj)
    · exact .inl (.inr (.inl rfl))
    · exact .inr (hn j hj)

theorem capp_runs {w0 : World} {S : St} {Q : AEnd → St → Prop} {c i g : Nat} {D : Dk} {s : List UInt8} {t tk : Tok} {X : CS} {o : Op} (h : CopyAt S c i g D s t tk X) (ho : o.Ok) (hr : X.R.length < 1000000) (hl : X.L.length < 1000000)
    (hQ : ∀ S' D' t' tk', CAfter S c i g D t tk S' D' t' tk' s (X.app s o).2 → Q (.ret (.int .i64 (X.app s o).1)) S') : RSim Tryd.prog w0 n_copy_Copy_Append [.ptr (some (c, 0)), .agg o.v] S Q := by
  have ex := h.ex
  have hc := h.lt
  have hne : ¬ c = S.n := by omega
  have k0 : Keeps (fun _ => False) S (S.add (.cells o.v)) := (Keeps.refl _ S).add _
  have h0 := CAfter.new h k0
  have c0 : (S.add (.cells o.v)).cells S.n = some o.v := by rw [cells_addc, if_pos rfl]
  have l0 : S.n < (S.add (.cells o.v)).n := by rw [St.add_n]; omega
  have nc : ¬ ownC c i g D t tk S.n := fun hh => by have := h.own_lt hh; omega
  simp only [Op.v, Dc.v] at c0 l0 k0 h0 ⊢
  refine RSim.run mixed k_copy_Copy_Append ?_ (by simp)
  simp only [b_copy_Copy_Append, go_sem, Nat.reduceEqDiff, Nat.reduceAdd, Nat.reduceMul, Nat.reduceSub, Nat.reduceLeDiff, Int.reduceBEq, Int.reduceBNe, Int.reduceLT, Int.reduceLE, Int.reduceGT, Int.reduceGE, Int.reduceEq, ↓reduceIte, reduceCtorEq]
  refine wc_ite (b := false) (by simp only [go_sem, Nat.reduceEqDiff, Nat.reduceAdd, Nat.reduceMul, Nat.reduceSub, Nat.reduceLeDiff, Int.reduceBEq, Int.reduceBNe, Int.reduceLT, Int.reduceLE, Int.reduceGT, Int.reduceGE, Int.reduceEq, ↓reduceIte, reduceCtorEq] <;> rfl) (fun h => by cases h) (fun _ => ?_)
  simp only [go_sem, Nat.reduceEqDiff, Nat.reduceAdd, Nat.reduceMul, Nat.reduceSub, Nat.reduceLeDiff, Int.reduceBEq, Int.reduceBNe, Int.reduceLT, Int.reduceLE, Int.reduceGT, Int.reduceGE, Int.reduceEq, ↓reduceIte, reduceCtorEq]
  generalize S.add (.cells [.int .u64 (o.t : Nat), .str (mkS o.d.id), .int .i64 o.d.tm, .str (mkS o.d.tx)]) = S0 at *
  refine wi_call ?_
  simp only [go_sem, Nat.reduceEqDiff, Nat.reduceAdd, Nat.reduceMul, Nat.reduceSub, Nat.reduceLeDiff, Int.reduceBEq, Int.reduceBNe, Int.reduceLT, Int.reduceLE, Int.reduceGT, Int.reduceGE, Int.reduceEq, ↓reduceIte, reduceCtorEq]
  refine encode_runs ho (fun hf S1 v1 b1 k1 => ?_) fun hf S1 k1 => ?_
  · have h1 := h0.trans (CAfter.new h0.w k1)
    have c1 := k1.cells c0 l0 _root_.id
    have l1 := k1.lt l0
    have ex1 := h1.w.ex
    unfold CS.app at hQ
    rw [if_neg (by rw [hf]; simp)] at hQ
    have el := entB_len ho hf
    have q1 : ((o.t : Int) != (X.T.h : Int)) = decide (o.t ≠ X.T.h) := by rw [Bool.eq_iff_iff, bne_iff_ne, decide_eq_true_iff]; omega
    have q2 : ((o.t : Int) != (X.T.a : Int)) = decide (o.t ≠ X.T.a) := by rw [Bool.eq_iff_iff, bne_iff_ne, decide_eq_true_iff]; omega
    simp only [go_sem, Nat.reduceEqDiff, Nat.reduceAdd, Nat.reduceMul, Nat.reduceSub, Nat.reduceLeDiff, Int.reduceBEq, Int.reduceBNe, Int.reduceLT, Int.reduceLE, Int.reduceGT, Int.reduceGE, Int.reduceEq, ↓reduceIte, reduceCtorEq]
    refine wc_ite (b := false) (by simp only [go_sem, Nat.reduceEqDiff, Nat.reduceAdd, Nat.reduceMul, Nat.reduceSub, Nat.reduceLeDiff, Int.reduceBEq, Int.reduceBNe, Int.reduceLT, Int.reduceLE, Int.reduceGT, Int.reduceGE, Int.reduceEq, ↓reduceIte, reduceCtorEq] <;> rfl) (fun h => by cases h) (fun _ => ?_)
    by_cases hbad : o.t ≠ X.T.h ∨ o.t ≠ X.T.a
    · rw [if_pos hbad] at hQ
      by_cases hb1 : o.t ≠ X.T.h
      · rw [decide_eq_true hb1] at q1
        simp only [go_sem, Nat.reduceEqDiff, Nat.reduceAdd, Nat.reduceMul, Nat.reduceSub, Nat.reduceLeDiff, Int.reduceBEq, Int.reduceBNe, Int.reduceLT, Int.reduceLE, Int.reduceGT, Int.reduceGE, Int.reduceEq, ↓reduceIte, reduceCtorEq, c1, ex1, q1]
        refine wc_ite (b := true) (by simp only [go_sem, Nat.reduceEqDiff, Nat.reduceAdd, Nat.reduceMul, Nat.reduceSub, Nat.reduceLeDiff, Int.reduceBEq, Int.reduceBNe, Int.reduceLT, Int.reduceLE, Int.reduceGT, Int.reduceGE, Int.reduceEq, ↓reduceIte, reduceCtorEq] <;> rfl) (fun _ => ?_) (fun h => by cases h)
        simp only [go_sem, Nat.reduceEqDiff, Nat.reduceAdd, Nat.reduceMul, Nat.reduceSub, Nat.reduceLeDiff, Int.reduceBEq, Int.reduceBNe, Int.reduceLT, Int.reduceLE, Int.reduceGT, Int.reduceGE, Int.reduceEq, ↓reduceIte, reduceCtorEq]
        exact hQ S1 D t tk h1
      · rw [decide_eq_false hb1] at q1
        rw [decide_eq_true (hbad.resolve_left hb1)] at q2
        simp only [go_sem, Nat.reduceEqDiff, Nat.reduceAdd, Nat.reduceMul, Nat.reduceSub, Nat.reduceLeDiff, Int.reduceBEq, Int.reduceBNe, Int.reduceLT, Int.reduceLE, Int.reduceGT, Int.reduceGE, Int.reduceEq, ↓reduceIte, reduceCtorEq, c1, ex1, q1, q2]
        refine wc_ite (b := true) (by simp only [go_sem, Nat.reduceEqDiff, Nat.reduceAdd, Nat.reduceMul, Nat.reduceSub, Nat.reduceLeDiff, Int.reduceBEq, Int.reduceBNe, Int.reduceLT, Int.reduceLE, Int.reduceGT, Int.reduceGE, Int.reduceEq, ↓reduceIte, reduceCtorEq] <;> rfl) (fun _ => ?_) (fun h => by cases h)
        simp only [go_sem, Nat.reduceEqDiff, Nat.reduceAdd, Nat.reduceMul, Nat.reduceSub, Nat.reduceLeDiff, Int.reduceBEq, Int.reduceBNe, Int.reduceLT, Int.reduceLE, Int.reduceGT, Int.reduceGE, Int.reduceEq, ↓reduceIte, reduceCtorEq]
        exact hQ S1 D t tk h1
    · rw [if_neg hbad] at hQ
      rw [decide_eq_false fun h => hbad (.inl h)] at q1
      rw [decide_eq_false fun h => hbad (.inr h)] at q2
      simp only [go_sem, Nat.reduceEqDiff, Nat.reduceAdd, Nat.reduceMul, Nat.reduceSub, Nat.reduceLeDiff, Int.reduceBEq, Int.reduceBNe, Int.reduceLT, Int.reduceLE, Int.reduceGT, Int.reduceGE, Int.reduceEq, ↓reduceIte, reduceCtorEq, c1, ex1, q1, q2]
      refine wc_ite (b := false) (by simp only [go_sem, Nat.reduceEqDiff, Nat.reduceAdd, Nat.reduceMul, Nat.reduceSub, Nat.reduceLeDiff, Int.reduceBEq, Int.reduceBNe, Int.reduceLT, Int.reduceLE, Int.reduceGT, Int.reduceGE, Int.reduceEq, ↓reduceIte, reduceCtorEq] <;> rfl) (fun h => by cases h) (fun _ => ?_)
      simp only [go_sem, Nat.reduceEqDiff, Nat.reduceAdd, Nat.reduceMul, Nat.reduceSub, Nat.reduceLeDiff, Int.reduceBEq, Int.reduceBNe, Int.reduceLT, Int.reduceLE, Int.reduceGT, Int.reduceGE, Int.reduceEq, ↓reduceIte, reduceCtorEq, ex1]
      have hel : (encB o).length ≤ 600 := by have : (entB o).length = (encB o).length + 1 := rfl; omega
      refine wi_appendBT (S0 := S) (v := .sl [.int .u8 79] 1 1 .cap) (bs := [79]) (cs := encB o) (by simp only [go_sem, Nat.reduceEqDiff, Nat.reduceAdd, Nat.reduceMul, Nat.reduceSub, Nat.reduceLeDiff, Int.reduceBEq, Int.reduceBNe, Int.reduceLT, Int.reduceLE, Int.reduceGT, Int.reduceGE, Int.reduceEq, ↓reduceIte, reduceCtorEq]) ⟨.cap, rfl, trivial, fun h => (by cases h), fun j h => (by cases h)⟩ (by simp only [go_sem, Nat.reduceEqDiff, Nat.reduceAdd, Nat.reduceMul, Nat.reduceSub, Nat.reduceLeDiff, Int.reduceBEq, Int.reduceBNe, Int.reduceLT, Int.reduceLE, Int.reduceGT, Int.reduceGE, Int.reduceEq, ↓reduceIte, reduceCtorEq]; exact b1.is.elems _) (by simp; omega) (k0.trans k1 (fun _ _ => _root_.id)) fun v2 S2 k2 b2 p2 => ?_
      have h2 := CAfter.new h k2
      obtain ⟨c2, l2⟩ := p2 _ _ c1 l1
      have ex2 := h2.w.ex
      have b2' : BT S S2 v2 (entB o) := b2
      simp only [go_sem, Nat.reduceEqDiff, Nat.reduceAdd, Nat.reduceMul, Nat.reduceSub, Nat.reduceLeDiff, Int.reduceBEq, Int.reduceBNe, Int.reduceLT, Int.reduceLE, Int.reduceGT, Int.reduceGE, Int.reduceEq, ↓reduceIte, reduceCtorEq, ex2]
      refine wi_call ?_
      simp only [go_sem, Nat.reduceEqDiff, Nat.reduceAdd, Nat.reduceMul, Nat.reduceSub, Nat.reduceLeDiff, Int.reduceBEq, Int.reduceBNe, Int.reduceLT, Int.reduceLE, Int.reduceGT, Int.reduceGE, Int.reduceEq, ↓reduceIte, reduceCtorEq]
      refine logAppend_runs h2.w.w b2'.is (by have := h2.w.ok.r; omega) (fun h => by omega) (fun S3 D3 _ W a hne' => ?_) fun S3 D3 t3 _ W a he => ?_
      · have h3 := h2.trans (h2.w.wal W h2.w.ok.r)
        rw [h.d, if_pos hne'] at hQ
        have e1 : ((D.abs.grow s (frameB (entB o)) false).1 == 0) = false := by simpa using hne'
        simp only [go_sem, Nat.reduceEqDiff, Nat.reduceAdd, Nat.reduceMul, Nat.reduceSub, Nat.reduceLeDiff, Int.reduceBEq, Int.reduceBNe, Int.reduceLT, Int.reduceLE, Int.reduceGT, Int.reduceGE, Int.reduceEq, ↓reduceIte, reduceCtorEq, e1]
        refine wc_ite (b := false) (by simp only [go_sem, Nat.reduceEqDiff, Nat.reduceAdd, Nat.reduceMul, Nat.reduceSub, Nat.reduceLeDiff, Int.reduceBEq, Int.reduceBNe, Int.reduceLT, Int.reduceLE, Int.reduceGT, Int.reduceGE, Int.reduceEq, ↓reduceIte, reduceCtorEq] <;> rfl) (fun h => by cases h) (fun _ => ?_)
        simp only [go_sem, Nat.reduceEqDiff, Nat.reduceAdd, Nat.reduceMul, Nat.reduceSub, Nat.reduceLeDiff, Int.reduceBEq, Int.reduceBNe, Int.reduceLT, Int.reduceLE, Int.reduceGT, Int.reduceGE, Int.reduceEq, ↓reduceIte, reduceCtorEq, e1]
        refine wc_ite (b := false) (by simp only [go_sem, Nat.reduceEqDiff, Nat.reduceAdd, Nat.reduceMul, Nat.reduceSub, Nat.reduceLeDiff, Int.reduceBEq, Int.reduceBNe, Int.reduceLT, Int.reduceLE, Int.reduceGT, Int.reduceGE, Int.reduceEq, ↓reduceIte, reduceCtorEq] <;> rfl) (fun h => by cases h) (fun _ => ?_)
        simp only [go_sem, Nat.reduceEqDiff, Nat.reduceAdd, Nat.reduceMul, Nat.reduceSub, Nat.reduceLeDiff, Int.reduceBEq, Int.reduceBNe, Int.reduceLT, Int.reduceLE, Int.reduceGT, Int.reduceGE, Int.reduceEq, ↓reduceIte, reduceCtorEq]
        rw [← a] at hQ
        exact hQ S3 D3 t tk h3
      · have h3 := h2.trans (h2.w.wal W (by simp; omega))
        have c3 := W.k.cells c2 l2 (fun ho => nc (.inl ho))
        have ex3 := h3.w.ex
        have l3 := W.k.lt l2
        rw [h.d, if_neg (by rw [he]; simp)] at hQ
        simp only [go_sem, Nat.reduceEqDiff, Nat.reduceAdd, Nat.reduceMul, Nat.reduceSub, Nat.reduceLeDiff, Int.reduceBEq, Int.reduceBNe, Int.reduceLT, Int.reduceLE, Int.reduceGT, Int.reduceGE, Int.reduceEq, ↓reduceIte, reduceCtorEq]
        refine wc_ite (b := true) (by simp only [go_sem, Nat.reduceEqDiff, Nat.reduceAdd, Nat.reduceMul, Nat.reduceSub, Nat.reduceLeDiff, Int.reduceBEq, Int.reduceBNe, Int.reduceLT, Int.reduceLE, Int.reduceGT, Int.reduceGE, Int.reduceEq, ↓reduceIte, reduceCtorEq] <;> rfl) (fun _ => ?_) (fun h => by cases h)
        simp only [go_sem, Nat.reduceEqDiff, Nat.reduceAdd, Nat.reduceMul, Nat.reduceSub, Nat.reduceLeDiff, Int.reduceBEq, Int.reduceBNe, Int.reduceLT, Int.reduceLE, Int.reduceGT, Int.reduceGE, Int.reduceEq, ↓reduceIte, reduceCtorEq, ex3]
        refine wi_call ?_
        simp only [go_sem, Nat.reduceEqDiff, Nat.reduceAdd, Nat.reduceMul, Nat.reduceSub, Nat.reduceLeDiff, Int.reduceBEq, Int.reduceBNe, Int.reduceLT, Int.reduceLE, Int.reduceGT, Int.reduceGE, Int.reduceEq, ↓reduceIte, reduceCtorEq]
        refine logSync_runs h3.w.w fun S4 D4 W4 a4 => ?_
        have h4 := h3.trans (h3.w.wal W4 h3.w.ok.r)
        have ex4 := h4.w.ex
        have n3 : ¬ ownW i g D3 t3 S.n := fun ho => by
          rcases W.o S.n ho with h | h
          · exact nc (.inl h)
          · omega
        have c4 := W4.k.cells c3 l3 n3
        have l4 := W4.k.lt l3
        rw [← a] at hQ
        simp only at hQ a4 h4 ex4 ⊢
        generalize hB : D3.abs.syncL s (X.R ++ [entB o]) = B at *
        obtain ⟨e, DB⟩ := B
        simp only at hQ a4 ⊢
        subst a4
        by_cases e0 : e = 0
        · subst e0
          rw [if_pos rfl] at hQ
          simp only [go_sem, Nat.reduceEqDiff, Nat.reduceAdd, Nat.reduceMul, Nat.reduceSub, Nat.reduceLeDiff, Int.reduceBEq, Int.reduceBNe, Int.reduceLT, Int.reduceLE, Int.reduceGT, Int.reduceGE, Int.reduceEq, ↓reduceIte, reduceCtorEq]
          refine wc_ite (b := true) (by simp only [go_sem, Nat.reduceEqDiff, Nat.reduceAdd, Nat.reduceMul, Nat.reduceSub, Nat.reduceLeDiff, Int.reduceBEq, Int.reduceBNe, Int.reduceLT, Int.reduceLE, Int.reduceGT, Int.reduceGE, Int.reduceEq, ↓reduceIte, reduceCtorEq] <;> rfl) (fun _ => ?_) (fun h => by cases h)
          simp only [go_sem, Nat.reduceEqDiff, Nat.reduceAdd, Nat.reduceMul, Nat.reduceSub, Nat.reduceLeDiff, Int.reduceBEq, Int.reduceBNe, Int.reduceLT, Int.reduceLE, Int.reduceGT, Int.reduceGE, Int.reduceEq, ↓reduceIte, reduceCtorEq, c4, ex4]
          refine wi_append (n := X.L.length) (cs := X.L.flatMap Op.v) (t := tk) (m := 1) (xs := o.v) (by simp only [go_sem, Nat.reduceEqDiff, Nat.reduceAdd, Nat.reduceMul, Nat.reduceSub, Nat.reduceLeDiff, Int.reduceBEq, Int.reduceBNe, Int.reduceLT, Int.reduceLE, Int.reduceGT, Int.reduceGE, Int.reduceEq, ↓reduceIte, reduceCtorEq]; rfl) (by simp only [go_sem, Nat.reduceEqDiff, Nat.reduceAdd, Nat.reduceMul, Nat.reduceSub, Nat.reduceLeDiff, Int.reduceBEq, Int.reduceBNe, Int.reduceLT, Int.reduceLE, Int.reduceGT, Int.reduceGE, Int.reduceEq, ↓reduceIte, reduceCtorEq]; rfl) rfl (by simp [roomOk]; omega) h4.w.tok (fun e => by rw [h.nil e]; exact ⟨rfl, rfl⟩) fun tk5 S5 k5 ht5 hn5 hz5 => ?_
          have ex5 := k5.cells ex4 h4.w.lt (h4.w.tok.not_own ex4)
          simp only [go_sem, Nat.reduceEqDiff, Nat.reduceAdd, Nat.reduceMul, Nat.reduceSub, Nat.reduceLeDiff, Int.reduceBEq, Int.reduceBNe, Int.reduceLT, Int.reduceLE, Int.reduceGT, Int.reduceGE, Int.reduceEq, ↓reduceIte, reduceCtorEq, ex5]
          have e5 : V.sl (X.L.flatMap Op.v ++ o.v) (X.L.length + 1) 4 tk5 = opsV (X.L ++ [o]) tk5 := by simp [opsV]
          rw [e5]
          have h5 := h4.trans (h4.w.setL (L := X.L ++ [o]) k5 ht5 hn5 (fun e => absurd (hz5 e).1 (by decide)) (fun o' ho' => (List.mem_append.1 ho').elim (h.ok.l o') fun h => by rw [List.mem_singleton.1 h]; exact ho) (by simp; omega) rfl)
          exact hQ _ D4 t3 tk5 h5
        · have e1 : (e == 0) = false := by simpa using e0
          rw [if_neg e0] at hQ
          simp only [go_sem, Nat.reduceEqDiff, Nat.reduceAdd, Nat.reduceMul, Nat.reduceSub, Nat.reduceLeDiff, Int.reduceBEq, Int.reduceBNe, Int.reduceLT, Int.reduceLE, Int.reduceGT, Int.reduceGE, Int.reduceEq, ↓reduceIte, reduceCtorEq, e1]
          refine wc_ite (b := false) (by simp only [go_sem, Nat.reduceEqDiff, Nat.reduceAdd, Nat.reduceMul, Nat.reduceSub, Nat.reduceLeDiff, Int.reduceBEq, Int.reduceBNe, Int.reduceLT, Int.reduceLE, Int.reduceGT, Int.reduceGE, Int.reduceEq, ↓reduceIte, reduceCtorEq] <;> rfl) (fun h => by cases h) (fun _ => ?_)
          simp only [go_sem, Nat.reduceEqDiff, Nat.reduceAdd, Nat.reduceMul, Nat.reduceSub, Nat.reduceLeDiff, Int.reduceBEq, Int.reduceBNe, Int.reduceLT, Int.reduceLE, Int.reduceGT, Int.reduceGE, Int.reduceEq, ↓reduceIte, reduceCtorEq]
          exact hQ S4 D4 t3 tk h4
  · unfold CS.app at hQ
    rw [if_pos hf] at hQ
    simp only [go_sem, Nat.reduceEqDiff, Nat.reduceAdd, Nat.reduceMul, Nat.reduceSub, Nat.reduceLeDiff, Int.reduceBEq, Int.reduceBNe, Int.reduceLT, Int.reduceLE, Int.reduceGT, Int.reduceGE, Int.reduceEq, ↓reduceIte, reduceCtorEq]
    refine wc_ite (b := true) (by simp only [go_sem, Nat.reduceEqDiff, Nat.reduceAdd, Nat.reduceMul, Nat.reduceSub, Nat.reduceLeDiff, Int.reduceBEq, Int.reduceBNe, Int.reduceLT, Int.reduceLE, Int.reduceGT, Int.reduceGE, Int.reduceEq, ↓reduceIte, reduceCtorEq] <;> rfl) (fun _ => ?_) (fun h => by cases h)
    simp only [go_sem, Nat.reduceEqDiff, Nat.reduceAdd, Nat.reduceMul, Nat.reduceSub, Nat.reduceLeDiff, Int.reduceBEq, Int.reduceBNe, Int.reduceLT, Int.reduceLE, Int.reduceGT, Int.reduceGE, Int.reduceEq, ↓reduceIte, reduceCtorEq]
    exact hQ S1 D t tk (h0.trans (CAfter.new h0.w k1))
end Go.VM
