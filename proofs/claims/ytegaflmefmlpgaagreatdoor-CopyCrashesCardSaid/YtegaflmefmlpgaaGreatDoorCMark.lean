/-
  A copy: record, mark, Hear, Serve.
  A copy: Append.
  A copy: Adopt. NEWPP
-/
import Derived.Test.YtegaflmefmlpgaaGreatDoorCAt
set_option maxRecDepth 20000
set_option linter.unusedVariables false
set_option linter.unusedSimpArgs false
namespace Go.VM
open Go Go.RowKit Go.Proofs

theorem recB_len {T : Tm} (h : T.Ok) : (recB T).length ≤ 31 := by
  have := uvar_len10 h.h; have := uvar_len10 h.s; have := uvar_len10 h.a
  simp [recB]; omega
theorem record_runs {w0 : World} {S : St} {Q : AEnd → St → Prop} {T : Tm} (hT : T.Ok) (hQ : ∀ S' v', BT S S' v' (recB T) → Keeps (fun _ => False) S S' → Q (.ret v') S') : RSim Tryz.prog w0 n_copy_Terms_record [.agg T.v] S Q := by
  have l1 := uvar_len10 hT.h; have l2 := uvar_len10 hT.s; have l3 := uvar_len10 hT.a
  simp only [Tm.v]
  refine RSim.run mixed k_copy_Terms_record ?_ (by simp)
  simp only [b_copy_Terms_record, go_sem]
  have hfl : ∀ j, (([T.h, T.s, T.a].take j).flatMap uvar).length ≤ 30 := fun j => by
    match j with
    | 0 => simp
    | 1 => simp; omega
    | 2 => simp; omega
    | j + 3 => simp; omega
  refine loop_rule RSim.le (k := 3) (fun m fr S1 => ∃ (j : Nat) (v : V), m = 3 - j ∧ j ≤ 3 ∧ fr 13 = .sl [.int .u64 (T.h : Nat), .int .u64 (T.s : Nat), .int .u64 (T.a : Nat)] 3 1 .cap ∧ fr 14 = .int .i64 (3 : Int) ∧ fr 15 = .int .i64 (j : Nat) ∧ fr 3 = v ∧ BT S S1 v (70 :: ([T.h, T.s, T.a].take j).flatMap uvar) ∧ Keeps (fun _ => False) S S1) ?_
    ⟨0, .sl [.int .u8 70] 1 1 .cap, rfl, by omega, by simp only [go_sem], by simp only [go_sem]; rfl, by simp only [go_sem]; rfl, by simp only [go_sem], ⟨.cap, rfl, trivial, fun h => (by cases h), fun j h => (by cases h)⟩, (Keeps.refl _ S).add _⟩
  rintro m fr S1 ⟨j, v, hm, hj, f13, f14, f15, f3, hb, k1⟩
  simp only [l_copy_Terms_record_0, go_sem, f13, f14, f15]
  refine wc_ite (b := decide ((j : Int) < 3)) (by simp only [go_sem]) (fun hc => ?_) (fun hc => ?_)
  · have hlt : j < 3 := by have := of_decide_eq_true hc; omega
    have w1 : IntKind.i64.wrap ((j : Int) + 1) = ((j + 1 : Nat) : Int) := by rw [w64 (by omega) (by omega)]; omega
    obtain ⟨x, rest, hx, hd, ht⟩ : ∃ (x : Nat) (rest : List V), x < 18446744073709551616 ∧ [V.int .u64 (T.h : Nat), .int .u64 (T.s : Nat), .int .u64 (T.a : Nat)].drop (j * 1) = .int .u64 (x : Nat) :: rest ∧ [T.h, T.s, T.a].take (j + 1) = [T.h, T.s, T.a].take j ++ [x] := by
      match j, hlt with
      | 0, _ => exact ⟨T.h, _, hT.h, rfl, rfl⟩
      | 1, _ => exact ⟨T.s, _, hT.s, rfl, rfl⟩
      | 2, _ => exact ⟨T.a, _, hT.a, rfl, rfl⟩
    have hlt' : (j < 3) = True := eq_true hlt
    simp only [go_sem, f13, f14, f15, f3, hd, hlt', List.head?_cons]
    refine wi_call ?_
    simp only [go_sem]
    refine uvarint_own hx fun S2 v2 b2 k2 => ?_
    have hb := hb.keep k2
    have k2 := k1.trans k2 (fun _ _ => _root_.id)
    have lx := uvar_len10 hx
    have lf := hfl j
    simp only [go_sem]
    refine wi_appendBT (cs := uvar x) (by simp only [go_sem]) hb (by simp only [go_sem]; exact b2.is.elems _) (by simp only [List.length_cons]; omega) k2 fun v3 S3 k3 b3 _ => ?_
    simp only [go_sem, f13, f14, f15, w1]
    refine ⟨3 - (j + 1), by omega, j + 1, v3, rfl, by omega, rfl, rfl, ?_, k3⟩
    rw [ht, List.flatMap_append]
    simpa using b3
  · have : j = 3 := by have := of_decide_eq_false hc; omega
    subst this
    simp only [go_sem, f3]
    have e : 70 :: ([T.h, T.s, T.a].take 3).flatMap uvar = recB T := by simp [recB]
    rw [e] at hb
    exact hQ S1 v hb k1

def CS.mark (X : CS) (s : List UInt8) (T : Tm) : Int × CS :=
  if (X.D.grow s (frameB (recB T)) false).1 ≠ 0 then ((X.D.grow s (frameB (recB T)) false).1, { X with D := (X.D.grow s (frameB (recB T)) false).2 })
  else
    let B := (X.D.grow s (frameB (recB T)) false).2.syncL s (X.R ++ [recB T])
    (B.1, { X with D := B.2, R := X.R ++ [recB T], T := if B.1 = 0 then T else X.T })

theorem mark_runs {w0 : World} {S : St} {Q : AEnd → St → Prop} {c i g : Nat} {D : Dk} {s : List UInt8} {t tk : Tok} {X : CS} {T : Tm} (h : CopyAt S c i g D s t tk X) (hT : T.Ok) (hr : X.R.length < 1000000)
    (hQ : ∀ S' D' t' tk', CAfter S c i g D t tk S' D' t' tk' s (X.mark s T).2 → Q (.ret (.int .i64 (X.mark s T).1)) S') : RSim Tryz.prog w0 n_copy_Copy_mark [.ptr (some (c, 0)), .agg T.v] S Q := by
  have k0 : Keeps (fun _ => False) S (S.add (.cells T.v)) := (Keeps.refl _ S).add _
  have h0 := CAfter.new h k0
  have c0 : (S.add (.cells T.v)).cells S.n = some T.v := by rw [cells_addc, if_pos rfl]
  have l0 : S.n < (S.add (.cells T.v)).n := by rw [St.add_n]; omega
  have nc : ¬ ownC c i g D t tk S.n := fun hh => by have := h.own_lt hh; omega
  simp only [Tm.v] at *
  have ex := h.ex
  have hl := h.lt
  have hne : ¬ c = S.n := by omega
  refine RSim.run mixed k_copy_Copy_mark ?_ (by simp)
  simp only [b_copy_Copy_mark, go_sem, ex, hne]
  generalize S.add (.cells [.int .u64 (T.h : Nat), .int .u64 (T.s : Nat), .int .u64 (T.a : Nat)]) = S0 at *
  refine wi_call ?_
  simp only [go_sem]
  refine record_runs hT fun S1 v1 b1 k1 => ?_
  have h1 := h0.trans (CAfter.new h0.w k1)
  have c1 := k1.cells c0 l0 _root_.id
  have l1 := k1.lt l0
  have ex1 := h1.w.ex
  simp only [go_sem, ex1]
  refine wi_call ?_
  simp only [go_sem]
  refine logAppend_runs h1.w.w b1.is (by have := h1.w.ok.r; omega) (fun h => by have := recB_len hT; omega) (fun S2 D2 _ W a hne' => ?_) fun S2 D2 t2 _ W a he => ?_
  · have h2 := h1.trans (h1.w.wal W h1.w.ok.r)
    unfold CS.mark at hQ
    rw [h.d, if_pos hne'] at hQ
    have e1 : ((D.abs.grow s (frameB (recB T)) false).1 == 0) = false := by simpa using hne'
    simp only [go_sem, e1]
    refine wc_ite (b := false) (by simp only [go_sem] <;> rfl) (fun h => by cases h) (fun _ => ?_)
    simp only [go_sem, e1]
    refine wc_ite (b := false) (by simp only [go_sem] <;> rfl) (fun h => by cases h) (fun _ => ?_)
    simp only [go_sem]
    rw [← a] at hQ
    exact hQ S2 D2 t tk h2
  · have h2 := h1.trans (h1.w.wal W (by simp; omega))
    have nw : ∀ {D' : Dk} {t' : Tok} {S' : St}, (∀ j, ownC c i g D' t' tk j → ownC c i g D t tk j ∨ S'.n ≤ j) → S.n < S'.n → ¬ ownW i g D' t' S.n := fun o hl ho => by
      rcases o S.n (.inl ho) with h | h
      · exact nc h
      · omega
    have c2 := W.k.cells c1 l1 (fun ho => nc (.inl ho))
    have ex2 := h2.w.ex
    have l2 := W.k.lt l1
    unfold CS.mark at hQ
    rw [h.d, if_neg (by rw [he]; simp)] at hQ
    simp only [go_sem]
    refine wc_ite (b := true) (by simp only [go_sem] <;> rfl) (fun _ => ?_) (fun h => by cases h)
    simp only [go_sem, ex2]
    refine wi_call ?_
    simp only [go_sem]
    refine logSync_runs h2.w.w fun S3 D3 W3 a3 => ?_
    have h3 := h2.trans (h2.w.wal W3 h2.w.ok.r)
    have ex3 := h3.w.ex
    have n2 : ¬ ownW i g D2 t2 S.n := fun ho => by
      rcases W.o S.n ho with h | h
      · exact nc (.inl h)
      · omega
    have c3 := W3.k.cells c2 l2 n2
    rw [← a] at hQ
    simp only at hQ a3 h3 ex3 ⊢
    generalize hB : D2.abs.syncL s (X.R ++ [recB T]) = B at *
    obtain ⟨e, DB⟩ := B
    simp only at hQ a3 ⊢
    subst a3
    by_cases e0 : e = 0
    · subst e0
      have h4 := h3.trans (h3.w.setT hT rfl)
      rw [if_pos rfl] at hQ
      simp only [go_sem]
      refine wc_ite (b := true) (by simp only [go_sem] <;> rfl) (fun _ => ?_) (fun h => by cases h)
      simp only [go_sem, c3, ex3]
      exact hQ _ D3 t2 tk h4
    · have e1 : (e == 0) = false := by simpa using e0
      rw [if_neg e0] at hQ
      simp only [go_sem, e1]
      refine wc_ite (b := false) (by simp only [go_sem] <;> rfl) (fun h => by cases h) (fun _ => ?_)
      simp only [go_sem]
      exact hQ S3 D3 t2 tk h3

def CS.hear (X : CS) (s : List UInt8) (t : Nat) : Int × CS := if t < X.T.h then (12, X) else if t = X.T.h then (0, X) else X.mark s ⟨t, X.T.s, X.T.a⟩
def CS.serve (X : CS) (s : List UInt8) (t : Nat) : Int × CS := if t < X.T.h ∨ t ≤ X.T.s then (12, X) else X.mark s ⟨t, t, t⟩

theorem hear_runs {w0 : World} {S : St} {Q : AEnd → St → Prop} {c i g : Nat} {D : Dk} {s : List UInt8} {t tk : Tok} {X : CS} {n : Nat} (h : CopyAt S c i g D s t tk X) (hn : n < 18446744073709551616) (hr : X.R.length < 1000000)
    (hQ : ∀ S' D' t' tk', CAfter S c i g D t tk S' D' t' tk' s (X.hear s n).2 → Q (.ret (.int .i64 (X.hear s n).1)) S') : RSim Tryz.prog w0 n_copy_Copy_Hear [.ptr (some (c, 0)), .int .u64 n] S Q := by
  have ex := h.ex
  have hl := h.lt
  have hne : ¬ c = S.n := by omega
  unfold CS.hear at hQ
  refine RSim.run mixed k_copy_Copy_Hear ?_ (by simp)
  simp only [b_copy_Copy_Hear, go_sem]
  refine wc_ite (b := false) (by simp only [go_sem] <;> rfl) (fun h => by cases h) (fun _ => ?_)
  simp only [go_sem, ex]
  have q1 : decide ((n : Int) < (X.T.h : Int)) = decide (n < X.T.h) := decide_eq_decide.mpr (by omega)
  have q2 : ((n : Int) == (X.T.h : Int)) = decide (n = X.T.h) := by rw [Bool.eq_iff_iff, beq_iff_eq, decide_eq_true_iff]; omega
  simp only [go_sem, q1]
  refine wc_ite (b := decide (n < X.T.h)) (by simp only [go_sem]) (fun hc => ?_) (fun hc => ?_)
  · have hlt := of_decide_eq_true hc
    rw [if_pos hlt] at hQ
    simp only [go_sem]
    exact hQ S D t tk (CAfter.refl h)
  · have hlt := of_decide_eq_false hc
    rw [if_neg hlt] at hQ
    simp only [go_sem, ex, q2]
    refine wc_ite (b := decide (n = X.T.h)) (by simp only [go_sem]) (fun hc => ?_) (fun hc => ?_)
    · have heq := of_decide_eq_true hc
      rw [if_pos heq] at hQ
      simp only [go_sem]
      exact hQ S D t tk (CAfter.refl h)
    · have heq := of_decide_eq_false hc
      rw [if_neg heq] at hQ
      simp only [go_sem, s_copy_Copy_Hear_0, ex, hne]
      refine wi_call ?_
      simp only [go_sem]
      have h1 := fun {S'} (k : Keeps (fun _ => False) S S') => CAfter.new h k
      refine mark_runs (T := ⟨n, X.T.s, X.T.a⟩) (h1 (((Keeps.refl _ S).add _).set (.inr (Nat.le_refl _)) _)).w ⟨hn, h.ok.t.s, h.ok.t.a⟩ hr fun S' D' t' tk' a => ?_
      simp only [go_sem]
      exact hQ S' D' t' tk' ((h1 (((Keeps.refl _ S).add _).set (.inr (Nat.le_refl _)) _)).trans a)

theorem serve_runs {w0 : World} {S : St} {Q : AEnd → St → Prop} {c i g : Nat} {D : Dk} {s : List UInt8} {t tk : Tok} {X : CS} {n : Nat} (h : CopyAt S c i g D s t tk X) (hn : n < 18446744073709551616) (hr : X.R.length < 1000000)
    (hQ : ∀ S' D' t' tk', CAfter S c i g D t tk S' D' t' tk' s (X.serve s n).2 → Q (.ret (.int .i64 (X.serve s n).1)) S') : RSim Tryz.prog w0 n_copy_Copy_Serve [.ptr (some (c, 0)), .int .u64 n] S Q := by
  have ex := h.ex
  have hl := h.lt
  unfold CS.serve at hQ
  refine RSim.run mixed k_copy_Copy_Serve ?_ (by simp)
  simp only [b_copy_Copy_Serve, go_sem]
  refine wc_ite (b := false) (by simp only [go_sem] <;> rfl) (fun h => by cases h) (fun _ => ?_)
  have q1 : decide ((n : Int) < (X.T.h : Int)) = decide (n < X.T.h) := decide_eq_decide.mpr (by omega)
  have q2 : decide ((n : Int) ≤ (X.T.s : Int)) = decide (n ≤ X.T.s) := decide_eq_decide.mpr (by omega)
  by_cases hbad : n < X.T.h ∨ n ≤ X.T.s
  · rw [if_pos hbad] at hQ
    by_cases h1 : n < X.T.h
    · rw [decide_eq_true h1] at q1
      simp only [go_sem, ex, q1]
      refine wc_ite (b := true) (by simp only [go_sem] <;> rfl) (fun _ => ?_) (fun h => by cases h)
      simp only [go_sem]
      exact hQ S D t tk (CAfter.refl h)
    · rw [decide_eq_false h1] at q1
      rw [decide_eq_true (hbad.resolve_left h1)] at q2
      simp only [go_sem, ex, q1, q2]
      refine wc_ite (b := true) (by simp only [go_sem] <;> rfl) (fun _ => ?_) (fun h => by cases h)
      simp only [go_sem]
      exact hQ S D t tk (CAfter.refl h)
  · rw [if_neg hbad] at hQ
    rw [decide_eq_false fun h => hbad (.inl h)] at q1
    rw [decide_eq_false fun h => hbad (.inr h)] at q2
    simp only [go_sem, ex, q1, q2]
    refine wc_ite (b := false) (by simp only [go_sem] <;> rfl) (fun h => by cases h) (fun _ => ?_)
    simp only [go_sem, s_copy_Copy_Serve_0]
    refine wi_call ?_
    simp only [go_sem]
    refine mark_runs (T := ⟨n, n, n⟩) h ⟨hn, hn, hn⟩ hr fun S' D' t' tk' a => ?_
    simp only [go_sem]
    exact hQ S' D' t' tk' a
theorem hear_nil {w0 : World} {S : St} {Q : AEnd → St → Prop} {v : V} (hQ : Q (.ret (.int .i64 8)) S) : RSim Tryz.prog w0 n_copy_Copy_Hear [.ptr none, v] S Q := by
  refine RSim.run mixed k_copy_Copy_Hear ?_ (by simp)
  simp only [b_copy_Copy_Hear, go_sem]
  refine wc_ite (b := true) (by simp only [go_sem] <;> rfl) (fun _ => ?_) (fun h => by cases h)
  simp only [go_sem]
  exact hQ
theorem serve_nil {w0 : World} {S : St} {Q : AEnd → St → Prop} {v : V} (hQ : Q (.ret (.int .i64 8)) S) : RSim Tryz.prog w0 n_copy_Copy_Serve [.ptr none, v] S Q := by
  refine RSim.run mixed k_copy_Copy_Serve ?_ (by simp)
  simp only [b_copy_Copy_Serve, go_sem]
  refine wc_ite (b := true) (by simp only [go_sem] <;> rfl) (fun _ => ?_) (fun h => by cases h)
  simp only [go_sem]
  exact hQ
theorem capp_nil {w0 : World} {S : St} {Q : AEnd → St → Prop} {o : Op} (hQ : ∀ S', Keeps (fun _ => False) S S' → Q (.ret (.int .i64 8)) S') : RSim Tryz.prog w0 n_copy_Copy_Append [.ptr none, .agg o.v] S Q := by
  simp only [Op.v, Dc.v]
  refine RSim.run mixed k_copy_Copy_Append ?_ (by simp)
  simp only [b_copy_Copy_Append, go_sem]
  refine wc_ite (b := true) (by simp only [go_sem] <;> rfl) (fun _ => ?_) (fun h => by cases h)
  simp only [go_sem]
  exact hQ _ ((Keeps.refl _ S).add _)
theorem adopt_nil {w0 : World} {S : St} {Q : AEnd → St → Prop} {u v : V} (hQ : Q (.ret (.int .i64 8)) S) : RSim Tryz.prog w0 n_copy_Copy_Adopt [.ptr none, u, v] S Q := by
  refine RSim.run mixed k_copy_Copy_Adopt ?_ (by simp)
  simp only [b_copy_Copy_Adopt, go_sem]
  refine wc_ite (b := true) (by simp only [go_sem] <;> rfl) (fun _ => ?_) (fun h => by cases h)
  simp only [go_sem]
  exact hQ
end Go.VM

namespace Go.VM
open Go Go.RowKit Go.Proofs

theorem entB_len {o : Op} (ho : o.Ok) (hf : o.d.form = true) : (entB o).length ≤ 600 := by
  unfold Dc.form at hf
  simp only [Bool.and_eq_true, decide_eq_true_eq] at hf
  have u1 := uvar_len10 ho.t
  have u2 := uvar_len10 (v := o.d.id.length) (by omega)
  have u3 := uvar_len10 (zig_lt ho.d.lo ho.d.hi)
  have u4 := uvar_len10 (v := o.d.tx.length) (by omega)
  simp only [entB, encB, List.length_cons, List.length_append, textB_len]
  omega
def CS.app (X : CS) (s : List UInt8) (o : Op) : Int × CS :=
  if o.d.form = false then (3, X) else if o.t ≠ X.T.h ∨ o.t ≠ X.T.a then (12, X)
  else if (X.D.grow s (frameB (entB o)) false).1 ≠ 0 then ((X.D.grow s (frameB (entB o)) false).1, { X with D := (X.D.grow s (frameB (entB o)) false).2 })
  else
    let B := (X.D.grow s (frameB (entB o)) false).2.syncL s (X.R ++ [entB o])
    (B.1, { X with D := B.2, R := X.R ++ [entB o], L := if B.1 = 0 then X.L ++ [o] else X.L })

/-- The entries are others. -/
theorem CopyAt.setL {S S4 : St} {c i g : Nat} {D : Dk} {s : List UInt8} {t tk tk4 : Tok} {X : CS} {L : List Op} (h : CopyAt S c i g D s t tk X) (k : Keeps (tokOwn tk) S S4) (ht : TokOk S4 tk4) (hn : ∀ j, tk4 = .at j → S.n ≤ j) (hz : tk4 = .nil → L = [])
    (hL : ∀ o ∈ L, o.Ok) (hl : L.length ≤ 1000000) {cs : List V} (hcs : cs = [.ptr (some (g, 0)), opsV L tk4, .int .u64 (X.T.h : Nat), .int .u64 (X.T.s : Nat), .int .u64 (X.T.a : Nat)]) :
    CAfter S c i g D t tk (S4.set c (.cells cs)) D t tk4 s { X with L := L } := by
  subst hcs
  have hc := h.lt
  have k1 := Keeps.set1 S4 c (.cells [.ptr (some (g, 0)), opsV L tk4, .int .u64 (X.T.h : Nat), .int .u64 (X.T.s : Nat), .int .u64 (X.T.a : Nat)])
  have kk : Keeps (fun j => j = c ∨ tk = .at j) S (S4.set c (.cells [.ptr (some (g, 0)), opsV L tk4, .int .u64 (X.T.h : Nat), .int .u64 (X.T.s : Nat), .int .u64 (X.T.a : Nat)])) :=
    (k.mono fun j _ (hj : tokOwn tk j) => by cases tk <;> simp [tokOwn] at hj; exact .inr (by rw [hj])).set (.inl (.inl rfl)) _
  have hw := h.w.keep kk fun j hj e => h.no j e hj
  refine ⟨⟨hw, h.d, by rw [cells_setc, if_pos rfl], hz, kk.lt hc, ht.keep k1 fun j hj e => by have := hn j hj; omega, fun j hj ho => ?_, ⟨h.ok.t, hL, hl, h.ok.r⟩⟩, kk.mono fun _ _ e => .inr e, fun j hj => ?_⟩
  · rcases hj with rfl | hj
    · exact h.no j (.inl rfl) ho
    · have := hn j hj
      have := h.w.own_lt ho
      omega
  · rcases hj with hj | rfl | hj
    · exact .inl (.inl hj)
    · exact .inl (.inr (.inl rfl))
    · exact .inr (hn j hj)

theorem capp_runs {w0 : World} {S : St} {Q : AEnd → St → Prop} {c i g : Nat} {D : Dk} {s : List UInt8} {t tk : Tok} {X : CS} {o : Op} (h : CopyAt S c i g D s t tk X) (ho : o.Ok) (hr : X.R.length < 1000000) (hl : X.L.length < 1000000)
    (hQ : ∀ S' D' t' tk', CAfter S c i g D t tk S' D' t' tk' s (X.app s o).2 → Q (.ret (.int .i64 (X.app s o).1)) S') : RSim Tryz.prog w0 n_copy_Copy_Append [.ptr (some (c, 0)), .agg o.v] S Q := by
  have ex := h.ex
  have hc := h.lt
  have hne : ¬ c = S.n := by omega
  have k0 : Keeps (fun _ => False) S (S.add (.cells o.v)) := (Keeps.refl _ S).add _
  have h0 := CAfter.new h k0
  have c0 : (S.add (.cells o.v)).cells S.n = some o.v := by rw [cells_addc, if_pos rfl]
  have l0 : S.n < (S.add (.cells o.v)).n := by rw [St.add_n]; omega
  have nc : ¬ ownC c i g D t tk S.n := fun hh => by have := h.own_lt hh; omega
  simp only [Op.v, Dc.v] at c0 l0 k0 h0 ⊢
  refine RSim.run mixed k_copy_Copy_Append ?_ (by simp)
  simp only [b_copy_Copy_Append, go_sem]
  refine wc_ite (b := false) (by simp only [go_sem] <;> rfl) (fun h => by cases h) (fun _ => ?_)
  simp only [go_sem]
  generalize S.add (.cells [.int .u64 (o.t : Nat), .str (mkS o.d.id), .int .i64 o.d.tm, .str (mkS o.d.tx)]) = S0 at *
  refine wi_call ?_
  simp only [go_sem]
  refine encode_runs ho (fun hf S1 v1 b1 k1 => ?_) fun hf S1 k1 => ?_
  · have h1 := h0.trans (CAfter.new h0.w k1)
    have c1 := k1.cells c0 l0 _root_.id
    have l1 := k1.lt l0
    have ex1 := h1.w.ex
    unfold CS.app at hQ
    rw [if_neg (by rw [hf]; simp)] at hQ
    have el := entB_len ho hf
    have q1 : ((o.t : Int) != (X.T.h : Int)) = decide (o.t ≠ X.T.h) := by rw [Bool.eq_iff_iff, bne_iff_ne, decide_eq_true_iff]; omega
    have q2 : ((o.t : Int) != (X.T.a : Int)) = decide (o.t ≠ X.T.a) := by rw [Bool.eq_iff_iff, bne_iff_ne, decide_eq_true_iff]; omega
    simp only [go_sem]
    refine wc_ite (b := false) (by simp only [go_sem] <;> rfl) (fun h => by cases h) (fun _ => ?_)
    by_cases hbad : o.t ≠ X.T.h ∨ o.t ≠ X.T.a
    · rw [if_pos hbad] at hQ
      by_cases hb1 : o.t ≠ X.T.h
      · rw [decide_eq_true hb1] at q1
        simp only [go_sem, c1, ex1, q1]
        refine wc_ite (b := true) (by simp only [go_sem] <;> rfl) (fun _ => ?_) (fun h => by cases h)
        simp only [go_sem]
        exact hQ S1 D t tk h1
      · rw [decide_eq_false hb1] at q1
        rw [decide_eq_true (hbad.resolve_left hb1)] at q2
        simp only [go_sem, c1, ex1, q1, q2]
        refine wc_ite (b := true) (by simp only [go_sem] <;> rfl) (fun _ => ?_) (fun h => by cases h)
        simp only [go_sem]
        exact hQ S1 D t tk h1
    · rw [if_neg hbad] at hQ
      rw [decide_eq_false fun h => hbad (.inl h)] at q1
      rw [decide_eq_false fun h => hbad (.inr h)] at q2
      simp only [go_sem, c1, ex1, q1, q2]
      refine wc_ite (b := false) (by simp only [go_sem] <;> rfl) (fun h => by cases h) (fun _ => ?_)
      simp only [go_sem, ex1]
      have hel : (encB o).length ≤ 600 := by have : (entB o).length = (encB o).length + 1 := rfl; omega
      refine wi_appendBT (S0 := S) (v := .sl [.int .u8 79] 1 1 .cap) (bs := [79]) (cs := encB o) (by simp only [go_sem]) ⟨.cap, rfl, trivial, fun h => (by cases h), fun j h => (by cases h)⟩ (by simp only [go_sem]; exact b1.is.elems _) (by simp; omega) (k0.trans k1 (fun _ _ => _root_.id)) fun v2 S2 k2 b2 p2 => ?_
      have h2 := CAfter.new h k2
      obtain ⟨c2, l2⟩ := p2 _ _ c1 l1
      have ex2 := h2.w.ex
      have b2' : BT S S2 v2 (entB o) := b2
      simp only [go_sem, ex2]
      refine wi_call ?_
      simp only [go_sem]
      refine logAppend_runs h2.w.w b2'.is (by have := h2.w.ok.r; omega) (fun h => by omega) (fun S3 D3 _ W a hne' => ?_) fun S3 D3 t3 _ W a he => ?_
      · have h3 := h2.trans (h2.w.wal W h2.w.ok.r)
        rw [h.d, if_pos hne'] at hQ
        have e1 : ((D.abs.grow s (frameB (entB o)) false).1 == 0) = false := by simpa using hne'
        simp only [go_sem, e1]
        refine wc_ite (b := false) (by simp only [go_sem] <;> rfl) (fun h => by cases h) (fun _ => ?_)
        simp only [go_sem, e1]
        refine wc_ite (b := false) (by simp only [go_sem] <;> rfl) (fun h => by cases h) (fun _ => ?_)
        simp only [go_sem]
        rw [← a] at hQ
        exact hQ S3 D3 t tk h3
      · have h3 := h2.trans (h2.w.wal W (by simp; omega))
        have c3 := W.k.cells c2 l2 (fun ho => nc (.inl ho))
        have ex3 := h3.w.ex
        have l3 := W.k.lt l2
        rw [h.d, if_neg (by rw [he]; simp)] at hQ
        simp only [go_sem]
        refine wc_ite (b := true) (by simp only [go_sem] <;> rfl) (fun _ => ?_) (fun h => by cases h)
        simp only [go_sem, ex3]
        refine wi_call ?_
        simp only [go_sem]
        refine logSync_runs h3.w.w fun S4 D4 W4 a4 => ?_
        have h4 := h3.trans (h3.w.wal W4 h3.w.ok.r)
        have ex4 := h4.w.ex
        have n3 : ¬ ownW i g D3 t3 S.n := fun ho => by
          rcases W.o S.n ho with h | h
          · exact nc (.inl h)
          · omega
        have c4 := W4.k.cells c3 l3 n3
        have l4 := W4.k.lt l3
        rw [← a] at hQ
        simp only at hQ a4 h4 ex4 ⊢
        generalize hB : D3.abs.syncL s (X.R ++ [entB o]) = B at *
        obtain ⟨e, DB⟩ := B
        simp only at hQ a4 ⊢
        subst a4
        by_cases e0 : e = 0
        · subst e0
          rw [if_pos rfl] at hQ
          simp only [go_sem]
          refine wc_ite (b := true) (by simp only [go_sem] <;> rfl) (fun _ => ?_) (fun h => by cases h)
          simp only [go_sem, c4, ex4]
          refine wi_append (n := X.L.length) (cs := X.L.flatMap Op.v) (t := tk) (m := 1) (xs := o.v) (by simp only [go_sem]; rfl) (by simp only [go_sem]; rfl) rfl (by simp [roomOk]; omega) h4.w.tok (fun e => by rw [h.nil e]; exact ⟨rfl, rfl⟩) fun tk5 S5 k5 ht5 hn5 hz5 => ?_
          have ex5 := k5.cells ex4 h4.w.lt (h4.w.tok.not_own ex4)
          simp only [go_sem, ex5]
          have e5 : V.sl (X.L.flatMap Op.v ++ o.v) (X.L.length + 1) 4 tk5 = opsV (X.L ++ [o]) tk5 := by simp [opsV]
          rw [e5]
          have h5 := h4.trans (h4.w.setL (L := X.L ++ [o]) k5 ht5 hn5 (fun e => absurd (hz5 e).1 (by decide)) (fun o' ho' => (List.mem_append.1 ho').elim (h.ok.l o') fun h => by rw [List.mem_singleton.1 h]; exact ho) (by simp; omega) rfl)
          exact hQ _ D4 t3 tk5 h5
        · have e1 : (e == 0) = false := by simpa using e0
          rw [if_neg e0] at hQ
          simp only [go_sem, e1]
          refine wc_ite (b := false) (by simp only [go_sem] <;> rfl) (fun h => by cases h) (fun _ => ?_)
          simp only [go_sem]
          exact hQ S4 D4 t3 tk h4
  · unfold CS.app at hQ
    rw [if_pos hf] at hQ
    simp only [go_sem]
    refine wc_ite (b := true) (by simp only [go_sem] <;> rfl) (fun _ => ?_) (fun h => by cases h)
    simp only [go_sem]
    exact hQ S1 D t tk (h0.trans (CAfter.new h0.w k1))
end Go.VM

namespace Go.VM
open Go Go.RowKit Go.Proofs

def badL (l : List Op) : Bool := l.any fun o => !o.d.form
def CS.adopt (X : CS) (s : List UInt8) (n : Nat) (l : List Op) : Int × CS :=
  if n < X.T.h then (12, X) else if badL l = true then (3, X)
  else if n = X.T.a ∧ l.length ≤ X.L.length then (0, X)
  else
    let W := X.D.writeL s (recB ⟨n, X.T.s, n⟩ :: l.map entB)
    if W.1 ≠ 0 then (W.1, { X with D := W.2 }) else (0, ⟨W.2, recB ⟨n, X.T.s, n⟩ :: l.map entB, ⟨n, X.T.s, n⟩, l⟩)

theorem opsV_at' {L : List Op} {j : Nat} {o : Op} (h : L[j]? = some o) : (L.flatMap Op.v).drop (j * 4) = o.v ++ (L.drop (j + 1)).flatMap Op.v := fm_at Op.v_len h
theorem adopt_runs {w0 : World} {S : St} {Q : AEnd → St → Prop} {c i g n : Nat} {D : Dk} {s : List UInt8} {t tk tl : Tok} {X : CS} {L : List Op} (h : CopyAt S c i g D s t tk X) (hn : n < 18446744073709551616) (hL : ∀ o ∈ L, o.Ok) (hl : L.length ≤ 1000) (htl : tl = .nil → L = [])
    (hQ : ∀ S' D' t' tk', CAfter S c i g D t tk S' D' t' tk' s (X.adopt s n L).2 → Q (.ret (.int .i64 (X.adopt s n L).1)) S') : RSim Tryz.prog w0 n_copy_Copy_Adopt [.ptr (some (c, 0)), .int .u64 n, opsV L tl] S Q := by
  have ex := h.ex
  have hc := h.lt
  unfold opsV
  have q1 : decide ((n : Int) < (X.T.h : Int)) = decide (n < X.T.h) := decide_eq_decide.mpr (by omega)
  unfold CS.adopt at hQ
  refine RSim.run mixed k_copy_Copy_Adopt ?_ (by simp)
  simp only [b_copy_Copy_Adopt, go_sem]
  refine wc_ite (b := false) (by simp only [go_sem] <;> rfl) (fun h => by cases h) (fun _ => ?_)
  simp only [go_sem, ex, q1]
  refine wc_ite (b := decide (n < X.T.h)) (by simp only [go_sem]) (fun hc => ?_) (fun hc => ?_)
  · have hlt := of_decide_eq_true hc
    rw [if_pos hlt] at hQ
    simp only [go_sem]
    exact hQ S D t tk (CAfter.refl h)
  · have hlt := of_decide_eq_false hc
    rw [if_neg hlt] at hQ
    have hne : ¬ c = S.n := by omega
    have hT : (⟨n, X.T.s, n⟩ : Tm).Ok := ⟨hn, h.ok.t.s, hn⟩
    simp only [go_sem, ex]
    refine wi_call ?_
    simp only [go_sem]
    have k0 : Keeps (fun _ => False) S ((S.add (.cells [.int .u64 0, .int .u64 0, .int .u64 0])).set S.n (.cells [.int .u64 (n : Nat), .int .u64 (X.T.s : Nat), .int .u64 (n : Nat)])) := ((Keeps.refl _ S).add _).set (.inr (Nat.le_refl _)) _
    have c0 : ((S.add (.cells [.int .u64 0, .int .u64 0, .int .u64 0])).set S.n (.cells [.int .u64 (n : Nat), .int .u64 (X.T.s : Nat), .int .u64 (n : Nat)])).cells S.n = some [.int .u64 (n : Nat), .int .u64 (X.T.s : Nat), .int .u64 (n : Nat)] := by rw [cells_setc, if_pos rfl]
    have l0 : S.n < ((S.add (.cells [.int .u64 0, .int .u64 0, .int .u64 0])).set S.n (.cells [.int .u64 (n : Nat), .int .u64 (X.T.s : Nat), .int .u64 (n : Nat)])).n := by rw [St.set_n, St.add_n]; omega
    generalize (S.add (.cells [.int .u64 0, .int .u64 0, .int .u64 0])).set S.n (.cells [.int .u64 (n : Nat), .int .u64 (X.T.s : Nat), .int .u64 (n : Nat)]) = S0 at *
    refine record_runs hT fun S1 v1 b1 k1 => ?_
    have o1 := b1.is.one
    have v1c := cells_one o1
    have c1 := k1.cells c0 l0 _root_.id
    have l1 := k1.lt l0
    have K1 := k0.trans k1 (fun _ _ => _root_.id)
    simp only [go_sem, o1, v1c]
    have one0 : IsSlice BytesR 1 (.sl [v1] 1 1 .cap) [recB ⟨n, X.T.s, n⟩] .cap := ⟨[[v1]], rfl, fun e => (by cases e), fun c hc => by rw [List.mem_singleton.1 hc]; rfl, rfl, fun j c x hc hx => by
      cases j with
      | zero =>
        simp only [List.getElem?_cons_zero, Option.some.injEq] at hc hx
        subst hc; subst hx
        exact ⟨v1, rfl, b1.is⟩
      | succ j => simp at hc⟩
    refine loop_rule RSim.le (k := L.length) (fun m fr Sa => ∃ (j : Nat) (vr : V) (tr : Tok), m = L.length - j ∧ j ≤ L.length ∧ fr 0 = .ptr (some (c, 0)) ∧ fr 1 = .int .u64 (n : Nat) ∧ fr 2 = .sl (L.flatMap Op.v) L.length 4 tl ∧ fr 7 = .ptr (some (S.n, 0)) ∧ fr 8 = vr ∧ fr 34 = .sl (L.flatMap Op.v) L.length 4 tl ∧ fr 35 = .int .i64 (L.length : Nat) ∧ fr 36 = .int .i64 (j : Nat) ∧
        IsSlice BytesR 1 vr (recB ⟨n, X.T.s, n⟩ :: (L.take j).map entB) tr ∧ TokOk Sa tr ∧ (∀ k, tr = .at k → S.n ≤ k) ∧ badL (L.take j) = false ∧ Keeps (fun _ => False) S Sa ∧ Sa.cells S.n = some [.int .u64 (n : Nat), .int .u64 (X.T.s : Nat), .int .u64 (n : Nat)] ∧ S.n < Sa.n) ?_
      ⟨0, _, .cap, rfl, by omega, by simp only [go_sem], by simp only [go_sem], by simp only [go_sem], by simp only [go_sem], by simp only [go_sem]; rfl, by simp only [go_sem], by simp only [go_sem], by simp only [go_sem]; rfl, by simpa using one0, trivial, fun k e => (by cases e), rfl, K1, c1, l1⟩
    rintro m fr Sa ⟨j, vr, tr, hm, hj, f0, f1, f2, f7, f8, f34, f35, f36, hR, htr, hnr, hbad, kA, cA, lA⟩
    simp only [l_copy_Copy_Adopt_0, go_sem, f0, f1, f2, f7, f8, f34, f35, f36]
    refine wc_ite (b := decide ((j : Int) < (L.length : Int))) (by simp only [go_sem]) (fun hc => ?_) (fun hc => ?_)
    · have hlt2 : j < L.length := by have := of_decide_eq_true hc; omega
      obtain ⟨o, ho⟩ : ∃ o, L[j]? = some o := ⟨_, List.getElem?_eq_getElem hlt2⟩
      have hoo := hL o (List.mem_of_getElem? ho)
      have dx := opsV_at' ho
      have ja : (j < L.length) = True := eq_true hlt2
      have na : (tl = .nil) = False := eq_false fun e => by rw [htl e] at ho; cases ho
      have w1 : IntKind.i64.wrap ((j : Int) + 1) = ((j + 1 : Nat) : Int) := by rw [w64 (by omega) (by omega)]; omega
      simp only [Op.v, Dc.v, List.cons_append, List.nil_append] at dx
      have kb : Keeps (fun _ => False) Sa ((Sa.add (.cells [.int .u64 0, .str (mkS []), .int .i64 0, .str (mkS [])])).set Sa.n (.cells o.v)) := ((Keeps.refl _ Sa).add _).set (.inr (Nat.le_refl _)) _
      simp only [Op.v, Dc.v] at kb
      simp only [go_sem, f34, f36, dx, ja, na]
      generalize (Sa.add (.cells [.int .u64 0, .str (mkS []), .int .i64 0, .str (mkS [])])).set Sa.n (.cells [.int .u64 (o.t : Nat), .str (mkS o.d.id), .int .i64 o.d.tm, .str (mkS o.d.tx)]) = Sb at *
      refine wi_call ?_
      simp only [go_sem]
      refine encode_runs (o := o) hoo (fun hf Sc v3 b3 kc => ?_) fun hf Sc kc => ?_
      · have kA2 := (kA.trans kb (fun _ _ => _root_.id)).trans kc (fun _ _ => _root_.id)
        have hel : (encB o).length ≤ 600 := by have := entB_len hoo hf; have : (entB o).length = (encB o).length + 1 := rfl; omega
        simp only [go_sem]
        refine wc_ite (b := false) (by simp only [go_sem] <;> rfl) (fun h => by cases h) (fun _ => ?_)
        simp only [go_sem]
        refine wi_append (n := 1) (cs := [.int .u8 79]) (t := .cap) (m := (encB o).length) (xs := (encB o).map u8V) (by simp only [go_sem]) (by simp only [go_sem]; exact b3.is.elems _) (by simp) (by simp [roomOk]; omega) trivial (fun e => by cases e) fun t4 Sd kd ht4 hn4 hz4 => ?_
        have kd0 : Keeps (fun _ => False) Sc Sd := kd.mono fun _ _ h => by cases h
        have e4 : V.sl ([.int .u8 79] ++ (encB o).map u8V) (1 + (encB o).length) 1 t4 = .sl ((entB o).map u8V) (entB o).length 1 t4 := by
          have : (entB o).length = 1 + (encB o).length := by rw [Nat.add_comm]; rfl
          rw [this]; rfl
        rw [e4]
        have b4 : IsBytes (.sl ((entB o).map u8V) (entB o).length 1 t4) (entB o) := ⟨t4, rfl, fun e => absurd (hz4 e).2 (by simp)⟩
        have o4 := b4.one
        have v4c := cells_one o4
        generalize V.sl ((entB o).map u8V) (entB o).length 1 t4 = v4 at *
        have kA3 := kA2.trans kd0 (fun _ _ => _root_.id)
        have kAd := (kb.trans kc (fun _ _ => _root_.id)).trans kd0 (fun _ _ => _root_.id)
        have htd := htr.keep kAd fun _ _ => _root_.id
        simp only [go_sem, f8, o4, v4c]
        refine wi_appendR (v := vr) (c := [v4]) (y := entB o) (by simp only [go_sem, f8]) hR (by simp only [go_sem]; rfl) rfl ⟨v4, rfl, b4⟩ (by simp only [List.length_cons, List.length_map, List.length_take]; omega) htd fun tr' Se vr' hR' ke htr' hnr' _ => ?_
        simp only [go_sem, f36, w1]
        have kE : Keeps (fun _ => False) S Se := keeps_new kA3 ke fun k hk => hnr k (by cases tr <;> simp [tokOwn] at hk; rw [hk])
        have cE : Se.cells S.n = _ := ke.cells (kAd.cells cA lA _root_.id) (kAd.lt lA) (htd.not_own (kAd.cells cA lA _root_.id))
        have ht : L.take (j + 1) = L.take j ++ [o] := take_snoc ho
        refine ⟨L.length - (j + 1), by omega, j + 1, vr', tr', rfl, by omega, f0, f1, f2, f7, rfl, f34, f35, rfl, ?_, htr', fun k hk => Nat.le_trans kA3.n (hnr' k hk), ?_, kE, cE, ke.lt (kAd.lt lA)⟩
        · rw [ht, List.map_append]; exact hR'
        · rw [ht, badL, List.any_append, ← badL, hbad]; simp [hf]
      · have hbl : badL L = true := List.any_eq_true.2 ⟨o, List.mem_of_getElem? ho, by rw [hf]; rfl⟩
        rw [if_pos hbl] at hQ
        simp only [go_sem]
        refine wc_ite (b := true) (by simp only [go_sem] <;> rfl) (fun _ => ?_) (fun h => by cases h)
        simp only [go_sem]
        exact hQ Sc D t tk (CAfter.new h ((kA.trans kb (fun _ _ => _root_.id)).trans kc (fun _ _ => _root_.id)))
    · have hje : j = L.length := by have := of_decide_eq_false hc; omega
      subst hje
      rw [List.take_length] at hbad hR
      rw [if_neg (by rw [hbad]; simp)] at hQ
      have hA := CAfter.new h kA
      have exA := hA.w.ex
      have e1 : ((n : Int) == (X.T.a : Int)) = decide (n = X.T.a) := by rw [Bool.eq_iff_iff, beq_iff_eq, decide_eq_true_iff]; omega
      have e2 : decide ((L.length : Int) ≤ (X.L.length : Int)) = decide (L.length ≤ X.L.length) := decide_eq_decide.mpr (by omega)
      unfold opsV at exA
      by_cases hsame : n = X.T.a ∧ L.length ≤ X.L.length
      · rw [if_pos hsame] at hQ
        rw [decide_eq_true hsame.1] at e1
        rw [decide_eq_true hsame.2] at e2
        simp only [go_sem, s_copy_Copy_Adopt_0, f0, f1, f2, exA, e1, e2]
        refine wc_ite (b := true) (by simp only [go_sem] <;> rfl) (fun _ => ?_) (fun h => by cases h)
        simp only [go_sem]
        exact hQ Sa D t tk hA
      · rw [if_neg hsame] at hQ
        have hform : ∀ o ∈ L, o.d.form = true := fun o ho => by
          cases hf : o.d.form with
          | true => rfl
          | false =>
            have : badL L = true := List.any_eq_true.2 ⟨o, ho, by rw [hf]; rfl⟩
            rw [hbad] at this; cases this
        have hlen : ∀ r ∈ (recB ⟨n, X.T.s, n⟩ :: L.map entB), r.length ≤ 600 := fun r hr => by
          rcases List.mem_cons.1 hr with rfl | hr
          · have := recB_len hT; omega
          · obtain ⟨o, ho, rfl⟩ := List.mem_map.1 hr
            exact entB_len (hL o ho) (hform o ho)
        have hb : (fileB (recB ⟨n, X.T.s, n⟩ :: L.map entB)).length ≤ 10000000000000 := by
          have key : ∀ M : List (List UInt8), (∀ r ∈ M, r.length ≤ 600) → (fileB M).length ≤ M.length * 609 := by
            intro M
            induction M with
            | nil => intro _; simp [fileB]
            | cons r M ih =>
              intro hM
              have h1 := hM r (by simp)
              have h2 := frameB_le (r := r) (by omega)
              have h3 := ih fun r' hr => hM r' (List.mem_cons_of_mem _ hr)
              have e1 : fileB (r :: M) = frameB r ++ fileB M := by simp [fileB]
              rw [e1, List.length_append, List.length_cons]
              omega
          have := key _ hlen
          simp only [List.length_cons, List.length_map] at this
          omega
        have w0r : IntKind.i64.wrap 0 = 0 := rfl
        have hor : decide (n = X.T.a) = false ∨ decide (n = X.T.a) = true ∧ decide (L.length ≤ X.L.length) = false := by
          by_cases hsn : n = X.T.a
          · exact .inr ⟨decide_eq_true hsn, decide_eq_false fun h => hsame ⟨hsn, h⟩⟩
          · exact .inl (decide_eq_false hsn)
        rcases hor with h1 | ⟨h1, h2⟩
        · rw [h1] at e1
          simp only [go_sem, s_copy_Copy_Adopt_0, f0, f1, f2, exA, e1]
          refine wc_ite (b := false) (by simp only [go_sem] <;> rfl) (fun h => by cases h) (fun _ => ?_)
          simp only [go_sem, f0, exA, f8]
          refine wi_call ?_
          simp only [go_sem]
          refine logSet_runs (k := 0) hA.w.w (Nat.zero_le _) hR (fun r hr => by have := hlen r hr; omega) hb (by have := h.ok.r; simp only [List.length_cons, List.length_map]; omega) (fun Sf Df W a hne2 => ?_) fun Sf Df tf W a he => ?_
          · rw [h.d] at hQ
            have hz : (X.R.take 0 ++ (recB ⟨n, X.T.s, n⟩ :: L.map entB)) = recB ⟨n, X.T.s, n⟩ :: L.map entB := rfl
            rw [hz] at a hne2
            rw [hz]
            have e3 : ((D.abs.writeL s (recB ⟨n, X.T.s, n⟩ :: L.map entB)).1 != 0) = true := by simpa using hne2
            simp only at hQ
            rw [if_pos hne2, ← a] at hQ
            simp only [go_sem, e3]
            refine wc_ite (b := true) (by simp only [go_sem] <;> rfl) (fun _ => ?_) (fun h => by cases h)
            simp only [go_sem]
            exact hQ Sf Df t tk (hA.trans (hA.w.wal W hA.w.ok.r))
          · rw [h.d] at hQ
            have hz : (X.R.take 0 ++ (recB ⟨n, X.T.s, n⟩ :: L.map entB)) = recB ⟨n, X.T.s, n⟩ :: L.map entB := rfl
            rw [hz] at a he W
            simp only at hQ
            rw [if_neg (by rw [he]; simp), ← a] at hQ
            have hB := hA.trans (hA.w.wal W (by simp; omega))
            have exB := hB.w.ex
            have nS : ¬ ownW i g D t S.n := fun ho => by have := h.w.own_lt ho; omega
            have cB := W.k.cells cA lA nS
            unfold opsV at exB
            simp only [go_sem]
            refine wc_ite (b := false) (by simp only [go_sem] <;> rfl) (fun h => by cases h) (fun _ => ?_)
            simp only [go_sem, f0, f2, f7, cB]
            refine wi_append (n := 0) (cs := []) (t := .nil) (m := L.length) (xs := L.flatMap Op.v) (by simp only [go_sem]) (by simp only [go_sem]; exact opsV_elems L tl htl _) (fm_len Op.v_len _) (by simp [roomOk]; omega) trivial (fun _ => ⟨rfl, rfl⟩) fun tk5 S5 k5 ht5 hn5 hz5 => ?_
            have k50 : Keeps (fun _ => False) Sf S5 := k5.mono fun _ _ h => by cases h
            have lB := W.k.lt lA
            have c5 := k50.cells cB lB _root_.id
            have ex5 := k50.cells hB.w.ex hB.w.lt _root_.id
            have hne5 : ¬ S.n = c := fun e => by have := h.lt; omega
            have hC := hB.trans (CAfter.new hB.w k50)
            simp only [go_sem, f7, c5, ex5, hne5]
            have h6 := hB.w.setL (L := L) (k50.mono fun _ _ h => h.elim) ht5 hn5 (fun e => List.eq_nil_of_length_eq_zero (hz5 e).1) hL (by omega) rfl
            have h7 := h6.trans (h6.w.setT hT rfl)
            rw [St.set_set] at h7
            exact hQ _ Df tf tk5 (hB.trans h7)
        · rw [h1] at e1
          rw [h2] at e2
          simp only [go_sem, s_copy_Copy_Adopt_0, f0, f1, f2, exA, e1, e2]
          refine wc_ite (b := false) (by simp only [go_sem] <;> rfl) (fun h => by cases h) (fun _ => ?_)
          simp only [go_sem, f0, exA, f8]
          refine wi_call ?_
          simp only [go_sem]
          refine logSet_runs (k := 0) hA.w.w (Nat.zero_le _) hR (fun r hr => by have := hlen r hr; omega) hb (by have := h.ok.r; simp only [List.length_cons, List.length_map]; omega) (fun Sf Df W a hne2 => ?_) fun Sf Df tf W a he => ?_
          · rw [h.d] at hQ
            have hz : (X.R.take 0 ++ (recB ⟨n, X.T.s, n⟩ :: L.map entB)) = recB ⟨n, X.T.s, n⟩ :: L.map entB := rfl
            rw [hz] at a hne2
            rw [hz]
            have e3 : ((D.abs.writeL s (recB ⟨n, X.T.s, n⟩ :: L.map entB)).1 != 0) = true := by simpa using hne2
            simp only at hQ
            rw [if_pos hne2, ← a] at hQ
            simp only [go_sem, e3]
            refine wc_ite (b := true) (by simp only [go_sem] <;> rfl) (fun _ => ?_) (fun h => by cases h)
            simp only [go_sem]
            exact hQ Sf Df t tk (hA.trans (hA.w.wal W hA.w.ok.r))
          · rw [h.d] at hQ
            have hz : (X.R.take 0 ++ (recB ⟨n, X.T.s, n⟩ :: L.map entB)) = recB ⟨n, X.T.s, n⟩ :: L.map entB := rfl
            rw [hz] at a he W
            simp only at hQ
            rw [if_neg (by rw [he]; simp), ← a] at hQ
            have hB := hA.trans (hA.w.wal W (by simp; omega))
            have exB := hB.w.ex
            have nS : ¬ ownW i g D t S.n := fun ho => by have := h.w.own_lt ho; omega
            have cB := W.k.cells cA lA nS
            unfold opsV at exB
            simp only [go_sem]
            refine wc_ite (b := false) (by simp only [go_sem] <;> rfl) (fun h => by cases h) (fun _ => ?_)
            simp only [go_sem, f0, f2, f7, cB]
            refine wi_append (n := 0) (cs := []) (t := .nil) (m := L.length) (xs := L.flatMap Op.v) (by simp only [go_sem]) (by simp only [go_sem]; exact opsV_elems L tl htl _) (fm_len Op.v_len _) (by simp [roomOk]; omega) trivial (fun _ => ⟨rfl, rfl⟩) fun tk5 S5 k5 ht5 hn5 hz5 => ?_
            have k50 : Keeps (fun _ => False) Sf S5 := k5.mono fun _ _ h => by cases h
            have lB := W.k.lt lA
            have c5 := k50.cells cB lB _root_.id
            have ex5 := k50.cells hB.w.ex hB.w.lt _root_.id
            have hne5 : ¬ S.n = c := fun e => by have := h.lt; omega
            have hC := hB.trans (CAfter.new hB.w k50)
            simp only [go_sem, f7, c5, ex5, hne5]
            have h6 := hB.w.setL (L := L) (k50.mono fun _ _ h => h.elim) ht5 hn5 (fun e => List.eq_nil_of_length_eq_zero (hz5 e).1) hL (by omega) rfl
            have h7 := h6.trans (h6.w.setT hT rfl)
            rw [St.set_set] at h7
            exact hQ _ Df tf tk5 (hB.trans h7)
end Go.VM
