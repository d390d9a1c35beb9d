/-
  A copy and the document's side by side; CopyFull. NEWPP
-/
import Derived.Test.YtegaflmefmlpgaaDoorCDoc
import Derived.Test.YtegaflmefmlpgaaDoorCNil
set_option maxRecDepth 20000
set_option linter.unusedVariables false
set_option linter.unusedSimpArgs false
namespace Go.VM
open Go Go.RowKit Go.Proofs

structure Two (S : St) (c i g : Nat) (D : Dk) (s : List UInt8) (t tk : Tok) (X : CS) (es : List Rec) (room : Int) (x : Nat) (tx : Tok) : Prop where
  hc : CopyAt S c i g D s t tk X
  hk : Calm s X es room
  hr : RefC S x tx X.T X.L
  dis : ∀ j, ownC c i g D t tk j → ¬ ownX x tx j
theorem RefC.own_lt {S : St} {x : Nat} {tx : Tok} {T : Tm} {L : List Op} (h : RefC S x tx T L) {j : Nat} (hj : ownX x tx j) : j < S.n := by
  rcases hj with rfl | hj
  · exact h.lt
  · have := h.tok; rw [hj] at this; exact this.lt
section
variable {S S' S'' : St} {c i g x : Nat} {D D' : Dk} {s : List UInt8} {t tk t' tk' tx tx' : Tok} {X X' : CS} {es es' : List Rec} {room : Int}
theorem Two.stay (h : Two S c i g D s t tk X es room x tx) (k : Keeps (fun _ => False) S S') : Two S' c i g D s t tk X es room x tx := ⟨h.hc.stay k, h.hk, h.hr.stay k, h.dis⟩
theorem Two.ref (h : Two S c i g D s t tk X es room x tx) (a : CAfter S c i g D t tk S' D' t' tk' s X') : RefC S' x tx X.T X.L := h.hr.keep a.k fun j hj ho => h.dis j ho hj
theorem Two.step (h : Two S c i g D s t tk X es room x tx) (a : CAfter S c i g D t tk S' D' t' tk' s X') (hk : Calm s X' es' room) (b : XAfter S' x tx S'' tx' X'.T X'.L) : Two S'' c i g D' s t' tk' X' es' room x tx' := by
  have hr := h.ref a
  have dis1 : ∀ j, ownC c i g D' t' tk' j → ¬ ownX x tx j := fun j ho hx => by
    rcases a.o j ho with h1 | h1
    · exact h.dis j h1 hx
    · have := h.hr.own_lt hx; omega
  refine ⟨a.w.keep b.k fun j hj ho => dis1 j hj ho, hk, b.w, fun j ho hx => ?_⟩
  rcases b.o j hx with h1 | h1
  · exact dis1 j ho h1
  · have := a.w.own_lt ho; omega
end

theorem file_le {es : List Rec} (h : ∀ e ∈ es, e.Ok) : (fileB (es.map Rec.b)).length ≤ es.length * 609 := by
  induction es with
  | nil => simp [fileB]
  | cons e es ih =>
    have h1 := rec_len (h e (by simp))
    have h2 := frameB_le (r := e.b) (by omega)
    have h3 := ih fun e' he => h e' (List.mem_cons_of_mem _ he)
    have e1 : fileB ((e :: es).map Rec.b) = frameB e.b ++ fileB (es.map Rec.b) := by simp [fileB]
    rw [e1, List.length_append, List.length_cons]
    omega

theorem copyFull_runs {w0 : World} {n : Nat} {L : List Op} {tl : Tok} (hn : n ≤ 65535) (hL : ∀ o ∈ L, o.Ok) (hl : L.length ≤ 1000000000000000) (ht : tl = .nil → L = []) {S : St} {Q : AEnd → St → Prop} (hQ : ∀ S', Q (.ret (.bool true)) S') :
    RSim Tryd.prog w0 n_l16_CopyFull [.int .u16 n, opsV L tl] S Q := by
  obtain ⟨n1, n2⟩ := shardN_ok (n := 1) (by decide)
  refine RSim.run mixed k_l16_CopyFull ?_ (by simp)
  simp only [b_l16_CopyFull, go_sem, Nat.reduceEqDiff, Nat.reduceAdd, Nat.reduceMul, Nat.reduceSub, Nat.reduceLeDiff, Int.reduceBEq, Int.reduceBNe, Int.reduceLT, Int.reduceLE, Int.reduceGT, Int.reduceGE, Int.reduceEq, ↓reduceIte, reduceCtorEq]
  refine wi_call ?_
  simp only [go_sem, Nat.reduceEqDiff, Nat.reduceAdd, Nat.reduceMul, Nat.reduceSub, Nat.reduceLeDiff, Int.reduceBEq, Int.reduceBNe, Int.reduceLT, Int.reduceLE, Int.reduceGT, Int.reduceGE, Int.reduceEq, ↓reduceIte, reduceCtorEq]
  refine copyAwake_runs fun S0 _ => ?_
  have cv : ∀ S, V.conv S (.int .i64) (.int .u16 (n : Int)) = some (.int .i64 (n : Int)) := fun S => by simp only [V.conv]; rw [w64 (by omega) (by omega)]
  have tm : (n : Int).tmod 600 = ((n % 600 : Nat) : Int) := by rw [Int.tmod_eq_emod_of_nonneg (by omega)]; omega
  simp only [go_sem, Nat.reduceEqDiff, Nat.reduceAdd, Nat.reduceMul, Nat.reduceSub, Nat.reduceLeDiff, Int.reduceBEq, Int.reduceBNe, Int.reduceLT, Int.reduceLE, Int.reduceGT, Int.reduceGE, Int.reduceEq, ↓reduceIte, reduceCtorEq]
  refine wc_ite (b := false) (by simp only [go_sem, Nat.reduceEqDiff, Nat.reduceAdd, Nat.reduceMul, Nat.reduceSub, Nat.reduceLeDiff, Int.reduceBEq, Int.reduceBNe, Int.reduceLT, Int.reduceLE, Int.reduceGT, Int.reduceGE, Int.reduceEq, ↓reduceIte, reduceCtorEq] <;> rfl) (fun h => by cases h) (fun _ => ?_)
  simp only [go_sem, Nat.reduceEqDiff, Nat.reduceAdd, Nat.reduceMul, Nat.reduceSub, Nat.reduceLeDiff, Int.reduceBEq, Int.reduceBNe, Int.reduceLT, Int.reduceLE, Int.reduceGT, Int.reduceGE, Int.reduceEq, ↓reduceIte, reduceCtorEq, cv, tm]
  refine wi_call ?_
  simp only [go_sem, Nat.reduceEqDiff, Nat.reduceAdd, Nat.reduceMul, Nat.reduceSub, Nat.reduceLeDiff, Int.reduceBEq, Int.reduceBNe, Int.reduceLT, Int.reduceLE, Int.reduceGT, Int.reduceGE, Int.reduceEq, ↓reduceIte, reduceCtorEq]
  refine new_ok (shardN 1) (by omega) (by omega) fun S1 i D d hcl ho1 k1 => ?_
  simp only [go_sem, Nat.reduceEqDiff, Nat.reduceAdd, Nat.reduceMul, Nat.reduceSub, Nat.reduceLeDiff, Int.reduceBEq, Int.reduceBNe, Int.reduceLT, Int.reduceLE, Int.reduceGT, Int.reduceGE, Int.reduceEq, ↓reduceIte, reduceCtorEq]
  refine wi_call ?_
  simp only [go_sem, Nat.reduceEqDiff, Nat.reduceAdd, Nat.reduceMul, Nat.reduceSub, Nat.reduceLeDiff, Int.reduceBEq, Int.reduceBNe, Int.reduceLT, Int.reduceLE, Int.reduceGT, Int.reduceGE, Int.reduceEq, ↓reduceIte, reduceCtorEq]
  refine copyOpen_calm (n := 1) (es := []) (room := ((n % 600 : Nat) : Int)) (by decide) (fun e h => by cases h) (by decide) d fun S2 c D2 g t tk X hc hk hX k2 o2 => ?_
  simp only [go_sem, Nat.reduceEqDiff, Nat.reduceAdd, Nat.reduceMul, Nat.reduceSub, Nat.reduceLeDiff, Int.reduceBEq, Int.reduceBNe, Int.reduceLT, Int.reduceLE, Int.reduceGT, Int.reduceGE, Int.reduceEq, ↓reduceIte, reduceCtorEq]
  refine wc_ite (b := false) (by simp only [go_sem, Nat.reduceEqDiff, Nat.reduceAdd, Nat.reduceMul, Nat.reduceSub, Nat.reduceLeDiff, Int.reduceBEq, Int.reduceBNe, Int.reduceLT, Int.reduceLE, Int.reduceGT, Int.reduceGE, Int.reduceEq, ↓reduceIte, reduceCtorEq] <;> rfl) (fun h => by cases h) (fun _ => ?_)
  simp only [go_sem, Nat.reduceEqDiff, Nat.reduceAdd, Nat.reduceMul, Nat.reduceSub, Nat.reduceLeDiff, Int.reduceBEq, Int.reduceBNe, Int.reduceLT, Int.reduceLE, Int.reduceGT, Int.reduceGE, Int.reduceEq, ↓reduceIte, reduceCtorEq]
  have k3 : Keeps (fun _ => False) S2 (S2.add (.cells [.int .u64 0, .int .u64 0, .int .u64 0, .sl [] 0 4 .nil])) := (Keeps.refl _ _).add _
  have hR : RefC (S2.add (.cells [.int .u64 0, .int .u64 0, .int .u64 0, .sl [] 0 4 .nil])) S2.n .nil X.T X.L := by
    subst hX
    exact ⟨by rw [cells_addc, if_pos rfl]; rfl, fun _ => rfl, by rw [St.add_n]; omega, trivial, tm0, fun o h => (by cases h), by simp [replayAll]⟩
  have hX0 : X.T = ⟨0, 0, 0⟩ ∧ X.L = [] ∧ X.R = [] := by subst hX; exact ⟨rfl, rfl, rfl⟩
  have W : Two (S2.add (.cells [.int .u64 0, .int .u64 0, .int .u64 0, .sl [] 0 4 .nil])) c i g D2 (shardN 1) t tk X [] ((n % 600 : Nat) : Int) S2.n .nil := ⟨hc.stay k3, hk, hR, fun j ho hx => by
    rcases hx with rfl | hx
    · have := hc.own_lt ho; omega
    · cases hx⟩
  generalize S2.add (.cells [.int .u64 0, .int .u64 0, .int .u64 0, .sl [] 0 4 .nil]) = S3 at *
  clear hX hR k3
  refine wi_call ?_
  simp only [go_sem, Nat.reduceEqDiff, Nat.reduceAdd, Nat.reduceMul, Nat.reduceSub, Nat.reduceLeDiff, Int.reduceBEq, Int.reduceBNe, Int.reduceLT, Int.reduceLE, Int.reduceGT, Int.reduceGE, Int.reduceEq, ↓reduceIte, reduceCtorEq]
  refine serve_runs (n := 1) W.hc (by decide) (by rw [hX0.2.2]; decide) fun S4 D4 t4 tk4 a4 => ?_
  have hsv : X.serve (shardN 1) 1 = X.mark (shardN 1) ⟨1, 1, 1⟩ := if_neg (by rw [hX0.1]; rintro (h | h); exact absurd (show 1 < 0 from h) (by decide); exact absurd (show 1 ≤ 0 from h) (by decide))
  rw [hsv] at a4
  rw [hsv]
  have hT1 : (⟨1, 1, 1⟩ : Tm).Ok := ⟨by decide, by decide, by decide⟩
  by_cases hfit : ((fileB X.R).length : Int) + (frameB (recB ⟨1, 1, 1⟩)).length ≤ ((n % 600 : Nat) : Int)
  · obtain ⟨E1, m1, q1⟩ := W.hk.mark W.hc.good n1 hT1 hfit
    rw [m1] at a4
    rw [m1]
    simp only [go_sem, Nat.reduceEqDiff, Nat.reduceAdd, Nat.reduceMul, Nat.reduceSub, Nat.reduceLeDiff, Int.reduceBEq, Int.reduceBNe, Int.reduceLT, Int.reduceLE, Int.reduceGT, Int.reduceGE, Int.reduceEq, ↓reduceIte, reduceCtorEq]
    refine wc_ite (b := false) (by simp only [go_sem, Nat.reduceEqDiff, Nat.reduceAdd, Nat.reduceMul, Nat.reduceSub, Nat.reduceLeDiff, Int.reduceBEq, Int.reduceBNe, Int.reduceLT, Int.reduceLE, Int.reduceGT, Int.reduceGE, Int.reduceEq, ↓reduceIte, reduceCtorEq] <;> rfl) (fun h => by cases h) (fun _ => ?_)
    simp only [go_sem, Nat.reduceEqDiff, Nat.reduceAdd, Nat.reduceMul, Nat.reduceSub, Nat.reduceLeDiff, Int.reduceBEq, Int.reduceBNe, Int.reduceLT, Int.reduceLE, Int.reduceGT, Int.reduceGE, Int.reduceEq, ↓reduceIte, reduceCtorEq]
    refine wi_call ?_
    simp only [go_sem, Nat.reduceEqDiff, Nat.reduceAdd, Nat.reduceMul, Nat.reduceSub, Nat.reduceLeDiff, Int.reduceBEq, Int.reduceBNe, Int.reduceLT, Int.reduceLE, Int.reduceGT, Int.reduceGE, Int.reduceEq, ↓reduceIte, reduceCtorEq]
    have hds : docServe X.T 1 = (0, ⟨1, 1, 1⟩) := by rw [hX0.1]; exact if_neg (by rintro (h | h); exact absurd (show 1 < 0 from h) (by decide); exact absurd (show 1 ≤ 0 from h) (by decide))
    refine refServe_runs (n := 1) (W.ref a4) (by decide) fun S5 b5 => ?_
    rw [hds] at b5
    have W5 := W.step a4 q1 b5
    have hes5 : ([] ++ [Rec.f ⟨1, 1, 1⟩]).length ≤ 1 := by simp
    simp only [go_sem, Nat.reduceEqDiff, Nat.reduceAdd, Nat.reduceMul, Nat.reduceSub, Nat.reduceLeDiff, Int.reduceBEq, Int.reduceBNe, Int.reduceLT, Int.reduceLE, Int.reduceGT, Int.reduceGE, Int.reduceEq, ↓reduceIte, reduceCtorEq]
    have hTx : (⟨E1, X.R ++ [recB ⟨1, 1, 1⟩], ⟨1, 1, 1⟩, X.L⟩ : CS).T = ⟨1, 1, 1⟩ := rfl
    generalize (⟨E1, X.R ++ [recB ⟨1, 1, 1⟩], ⟨1, 1, 1⟩, X.L⟩ : CS) = X5 at *
    generalize ([] ++ [Rec.f ⟨1, 1, 1⟩] : List Rec) = es5 at *
    obtain ⟨x, hx⟩ : ∃ x, x = S2.n := ⟨_, rfl⟩
    rw [← hx] at W5
    refine loop_rule RSim.le (k := 20) (fun m fr Sa => ∃ (j : Nat) (Da : Dk) (ta tka txa : Tok) (Xa : CS) (esa : List Rec), m = 20 - j ∧ j ≤ 20 ∧ fr 1 = opsV L tl ∧ fr 5 = .ptr (some (i, 0)) ∧ fr 7 = .ptr (some (c, 0)) ∧ fr 9 = .ptr (some (x, 0)) ∧ fr 10 = .int .i64 (j : Nat) ∧ Two Sa c i g Da (shardN 1) ta tka Xa esa ((n % 600 : Nat) : Int) x txa ∧ Xa.T = ⟨1, 1, 1⟩ ∧ esa.length ≤ 1 + j) ?_
      ⟨0, D4, t4, tk4, .nil, X5, es5, rfl, by omega, by simp only [go_sem, Nat.reduceEqDiff, Nat.reduceAdd, Nat.reduceMul, Nat.reduceSub, Nat.reduceLeDiff, Int.reduceBEq, Int.reduceBNe, Int.reduceLT, Int.reduceLE, Int.reduceGT, Int.reduceGE, Int.reduceEq, ↓reduceIte, reduceCtorEq], by simp only [go_sem, Nat.reduceEqDiff, Nat.reduceAdd, Nat.reduceMul, Nat.reduceSub, Nat.reduceLeDiff, Int.reduceBEq, Int.reduceBNe, Int.reduceLT, Int.reduceLE, Int.reduceGT, Int.reduceGE, Int.reduceEq, ↓reduceIte, reduceCtorEq], by simp only [go_sem, Nat.reduceEqDiff, Nat.reduceAdd, Nat.reduceMul, Nat.reduceSub, Nat.reduceLeDiff, Int.reduceBEq, Int.reduceBNe, Int.reduceLT, Int.reduceLE, Int.reduceGT, Int.reduceGE, Int.reduceEq, ↓reduceIte, reduceCtorEq], by simp only [go_sem, Nat.reduceEqDiff, Nat.reduceAdd, Nat.reduceMul, Nat.reduceSub, Nat.reduceLeDiff, Int.reduceBEq, Int.reduceBNe, Int.reduceLT, Int.reduceLE, Int.reduceGT, Int.reduceGE, Int.reduceEq, ↓reduceIte, reduceCtorEq, hx], by simp only [go_sem, Nat.reduceEqDiff, Nat.reduceAdd, Nat.reduceMul, Nat.reduceSub, Nat.reduceLeDiff, Int.reduceBEq, Int.reduceBNe, Int.reduceLT, Int.reduceLE, Int.reduceGT, Int.reduceGE, Int.reduceEq, ↓reduceIte, reduceCtorEq]; rfl, W5, hTx, by omega⟩
    clear hX0 hk hc W a4 b5 W5 hTx hes5 hsv m1 q1 hfit hds
    rintro m fr Sa ⟨j, Da, ta, tka, txa, Xa, esa, hm, hj, f1, f5, f7, f9, f10, Wa, hTa, hea⟩
    unfold opsV at f1
    simp only [l_l16_CopyFull_0, go_sem, Nat.reduceEqDiff, Nat.reduceAdd, Nat.reduceMul, Nat.reduceSub, Nat.reduceLeDiff, Int.reduceBEq, Int.reduceBNe, Int.reduceLT, Int.reduceLE, Int.reduceGT, Int.reduceGE, Int.reduceEq, ↓reduceIte, reduceCtorEq, f1, f5, f7, f9, f10]
    by_cases hlt : j < L.length ∧ j < 20
    · have q1 : decide ((j : Int) < (L.length : Int)) = true := decide_eq_true (by omega)
      have q2 : decide ((j : Int) < 20) = true := decide_eq_true (by omega)
      obtain ⟨o, ho⟩ : ∃ o, L[j]? = some o := ⟨_, List.getElem?_eq_getElem hlt.1⟩
      have hoo := hL o (List.mem_of_getElem? ho)
      have dx := opsV_at ho
      have ja : (j < L.length) = True := eq_true hlt.1
      have na : (tl = .nil) = False := eq_false fun e => by rw [ht e] at ho; cases ho
      have w1 : IntKind.i64.wrap ((j : Int) + 1) = ((j + 1 : Nat) : Int) := by rw [w64 (by omega) (by omega)]; omega
      simp only [Op.v, Dc.v, List.cons_append, List.nil_append] at dx
      have kb : Keeps (fun _ => False) Sa ((Sa.add (.cells [.int .u64 0, .str (mkS []), .int .i64 0, .str (mkS [])])).set Sa.n (.cells (Op.v ⟨1, o.d⟩))) := ((Keeps.refl _ Sa).add _).set (.inr (Nat.le_refl _)) _
      have c0 : ((Sa.add (.cells [.int .u64 0, .str (mkS []), .int .i64 0, .str (mkS [])])).set Sa.n (.cells (Op.v ⟨1, o.d⟩))).cells Sa.n = some (Op.v ⟨1, o.d⟩) := by rw [cells_setc, if_pos rfl]
      have lb : Sa.n < ((Sa.add (.cells [.int .u64 0, .str (mkS []), .int .i64 0, .str (mkS [])])).set Sa.n (.cells (Op.v ⟨1, o.d⟩))).n := by rw [St.set_n, St.add_n]; omega
      have Wb := Wa.stay kb
      have nb : ¬ ownC c i g Da ta tka Sa.n := fun h => by have := Wa.hc.own_lt h; omega
      have ho1 : (⟨1, o.d⟩ : Op).Ok := ⟨show 1 < 18446744073709551616 by decide, hoo.d⟩
      have hrl : Xa.R.length = esa.length := by rw [Wa.hk.r, List.length_map]
      have hxl : Xa.L.length ≤ esa.length := by rw [Wa.hk.l]; exact (replay_ok esa Wa.hk.ok).2.2
      simp only [Op.v, Dc.v] at kb c0 lb Wb
      simp only [go_sem, Nat.reduceEqDiff, Nat.reduceAdd, Nat.reduceMul, Nat.reduceSub, Nat.reduceLeDiff, Int.reduceBEq, Int.reduceBNe, Int.reduceLT, Int.reduceLE, Int.reduceGT, Int.reduceGE, Int.reduceEq, ↓reduceIte, reduceCtorEq, q1, q2, f10]
      refine wc_ite (b := true) (by simp only [go_sem, Nat.reduceEqDiff, Nat.reduceAdd, Nat.reduceMul, Nat.reduceSub, Nat.reduceLeDiff, Int.reduceBEq, Int.reduceBNe, Int.reduceLT, Int.reduceLE, Int.reduceGT, Int.reduceGE, Int.reduceEq, ↓reduceIte, reduceCtorEq] <;> rfl) (fun _ => ?_) (fun h => by cases h)
      simp only [go_sem, Nat.reduceEqDiff, Nat.reduceAdd, Nat.reduceMul, Nat.reduceSub, Nat.reduceLeDiff, Int.reduceBEq, Int.reduceBNe, Int.reduceLT, Int.reduceLE, Int.reduceGT, Int.reduceGE, Int.reduceEq, ↓reduceIte, reduceCtorEq, k_l16_CopyFull_0, f1, f7, f10, dx, ja, na]
      generalize (Sa.add (.cells [.int .u64 0, .str (mkS []), .int .i64 0, .str (mkS [])])).set Sa.n (.cells [.int .u64 ((1 : Nat) : Int), .str (mkS o.d.id), .int .i64 o.d.tm, .str (mkS o.d.tx)]) = Sb at *
      refine wi_call ?_
      simp only [go_sem, Nat.reduceEqDiff, Nat.reduceAdd, Nat.reduceMul, Nat.reduceSub, Nat.reduceLeDiff, Int.reduceBEq, Int.reduceBNe, Int.reduceLT, Int.reduceLE, Int.reduceGT, Int.reduceGE, Int.reduceEq, ↓reduceIte, reduceCtorEq]
      refine capp_runs (o := ⟨1, o.d⟩) Wb.hc ho1 (by omega) (by omega) fun Sc Dc tc tkc ac => ?_
      have cc := ac.k.cells c0 lb nb
      cases hf : o.d.form with
      | false =>
        have happ : Xa.app (shardN 1) ⟨1, o.d⟩ = (3, Xa) := if_pos hf
        have hdoc : docApp Xa.T Xa.L ⟨1, o.d⟩ = (3, Xa.L) := if_pos hf
        rw [happ] at ac
        rw [happ]
        simp only [go_sem, Nat.reduceEqDiff, Nat.reduceAdd, Nat.reduceMul, Nat.reduceSub, Nat.reduceLeDiff, Int.reduceBEq, Int.reduceBNe, Int.reduceLT, Int.reduceLE, Int.reduceGT, Int.reduceGE, Int.reduceEq, ↓reduceIte, reduceCtorEq]
        refine wc_ite (b := true) (by simp only [go_sem, Nat.reduceEqDiff, Nat.reduceAdd, Nat.reduceMul, Nat.reduceSub, Nat.reduceLeDiff, Int.reduceBEq, Int.reduceBNe, Int.reduceLT, Int.reduceLE, Int.reduceGT, Int.reduceGE, Int.reduceEq, ↓reduceIte, reduceCtorEq] <;> rfl) (fun _ => ?_) (fun h => by cases h)
        simp only [go_sem, Nat.reduceEqDiff, Nat.reduceAdd, Nat.reduceMul, Nat.reduceSub, Nat.reduceLeDiff, Int.reduceBEq, Int.reduceBNe, Int.reduceLT, Int.reduceLE, Int.reduceGT, Int.reduceGE, Int.reduceEq, ↓reduceIte, reduceCtorEq, cc, f9]
        refine wi_call ?_
        simp only [go_sem, Nat.reduceEqDiff, Nat.reduceAdd, Nat.reduceMul, Nat.reduceSub, Nat.reduceLeDiff, Int.reduceBEq, Int.reduceBNe, Int.reduceLT, Int.reduceLE, Int.reduceGT, Int.reduceGE, Int.reduceEq, ↓reduceIte, reduceCtorEq]
        refine refApp_runs (o := ⟨1, o.d⟩) (Wb.ref ac) ho1 (by omega) fun Se te be => ?_
        rw [hdoc] at be
        rw [hdoc]
        have We := Wb.step ac Wa.hk be
        simp only [go_sem, Nat.reduceEqDiff, Nat.reduceAdd, Nat.reduceMul, Nat.reduceSub, Nat.reduceLeDiff, Int.reduceBEq, Int.reduceBNe, Int.reduceLT, Int.reduceLE, Int.reduceGT, Int.reduceGE, Int.reduceEq, ↓reduceIte, reduceCtorEq]
        refine wc_ite (b := false) (by simp only [go_sem, Nat.reduceEqDiff, Nat.reduceAdd, Nat.reduceMul, Nat.reduceSub, Nat.reduceLeDiff, Int.reduceBEq, Int.reduceBNe, Int.reduceLT, Int.reduceLE, Int.reduceGT, Int.reduceGE, Int.reduceEq, ↓reduceIte, reduceCtorEq] <;> rfl) (fun h => by cases h) (fun _ => ?_)
        simp only [go_sem, Nat.reduceEqDiff, Nat.reduceAdd, Nat.reduceMul, Nat.reduceSub, Nat.reduceLeDiff, Int.reduceBEq, Int.reduceBNe, Int.reduceLT, Int.reduceLE, Int.reduceGT, Int.reduceGE, Int.reduceEq, ↓reduceIte, reduceCtorEq, f7, f9]
        refine wi_call ?_
        simp only [go_sem, Nat.reduceEqDiff, Nat.reduceAdd, Nat.reduceMul, Nat.reduceSub, Nat.reduceLeDiff, Int.reduceBEq, Int.reduceBNe, Int.reduceLT, Int.reduceLE, Int.reduceGT, Int.reduceGE, Int.reduceEq, ↓reduceIte, reduceCtorEq]
        refine same16_runs We.hc We.hr fun Sf kf => ?_
        simp only [go_sem, Nat.reduceEqDiff, Nat.reduceAdd, Nat.reduceMul, Nat.reduceSub, Nat.reduceLeDiff, Int.reduceBEq, Int.reduceBNe, Int.reduceLT, Int.reduceLE, Int.reduceGT, Int.reduceGE, Int.reduceEq, ↓reduceIte, reduceCtorEq]
        refine wc_ite (b := false) (by simp only [go_sem, Nat.reduceEqDiff, Nat.reduceAdd, Nat.reduceMul, Nat.reduceSub, Nat.reduceLeDiff, Int.reduceBEq, Int.reduceBNe, Int.reduceLT, Int.reduceLE, Int.reduceGT, Int.reduceGE, Int.reduceEq, ↓reduceIte, reduceCtorEq] <;> rfl) (fun h => by cases h) (fun _ => ?_)
        simp only [go_sem, Nat.reduceEqDiff, Nat.reduceAdd, Nat.reduceMul, Nat.reduceSub, Nat.reduceLeDiff, Int.reduceBEq, Int.reduceBNe, Int.reduceLT, Int.reduceLE, Int.reduceGT, Int.reduceGE, Int.reduceEq, ↓reduceIte, reduceCtorEq, f10, w1]
        exact ⟨20 - (j + 1), by omega, j + 1, Dc, tc, tkc, te, Xa, esa, rfl, by omega, f1, f5, f7, f9, rfl, We.stay kf, hTa, by omega⟩
      | true =>
        by_cases hfit : ((fileB Xa.R).length : Int) + (frameB (entB ⟨1, o.d⟩)).length ≤ ((n % 600 : Nat) : Int)
        · obtain ⟨E2, happ, q2⟩ := Wa.hk.app Wa.hc.good n1 ho1 hf (by rw [hTa]; exact ⟨rfl, rfl⟩) hfit
          have hdoc : docApp Xa.T Xa.L ⟨1, o.d⟩ = (0, Xa.L ++ [⟨1, o.d⟩]) := by
            unfold docApp
            rw [if_neg (by rw [hf]; simp), if_neg (by rw [hTa]; simp)]
          rw [happ] at ac
          rw [happ]
          simp only [go_sem, Nat.reduceEqDiff, Nat.reduceAdd, Nat.reduceMul, Nat.reduceSub, Nat.reduceLeDiff, Int.reduceBEq, Int.reduceBNe, Int.reduceLT, Int.reduceLE, Int.reduceGT, Int.reduceGE, Int.reduceEq, ↓reduceIte, reduceCtorEq]
          refine wc_ite (b := true) (by simp only [go_sem, Nat.reduceEqDiff, Nat.reduceAdd, Nat.reduceMul, Nat.reduceSub, Nat.reduceLeDiff, Int.reduceBEq, Int.reduceBNe, Int.reduceLT, Int.reduceLE, Int.reduceGT, Int.reduceGE, Int.reduceEq, ↓reduceIte, reduceCtorEq] <;> rfl) (fun _ => ?_) (fun h => by cases h)
          simp only [go_sem, Nat.reduceEqDiff, Nat.reduceAdd, Nat.reduceMul, Nat.reduceSub, Nat.reduceLeDiff, Int.reduceBEq, Int.reduceBNe, Int.reduceLT, Int.reduceLE, Int.reduceGT, Int.reduceGE, Int.reduceEq, ↓reduceIte, reduceCtorEq, cc, f9]
          refine wi_call ?_
          simp only [go_sem, Nat.reduceEqDiff, Nat.reduceAdd, Nat.reduceMul, Nat.reduceSub, Nat.reduceLeDiff, Int.reduceBEq, Int.reduceBNe, Int.reduceLT, Int.reduceLE, Int.reduceGT, Int.reduceGE, Int.reduceEq, ↓reduceIte, reduceCtorEq]
          refine refApp_runs (o := ⟨1, o.d⟩) (Wb.ref ac) ho1 (by omega) fun Se te be => ?_
          rw [hdoc] at be
          rw [hdoc]
          have We := Wb.step ac q2 be
          simp only [go_sem, Nat.reduceEqDiff, Nat.reduceAdd, Nat.reduceMul, Nat.reduceSub, Nat.reduceLeDiff, Int.reduceBEq, Int.reduceBNe, Int.reduceLT, Int.reduceLE, Int.reduceGT, Int.reduceGE, Int.reduceEq, ↓reduceIte, reduceCtorEq]
          refine wc_ite (b := false) (by simp only [go_sem, Nat.reduceEqDiff, Nat.reduceAdd, Nat.reduceMul, Nat.reduceSub, Nat.reduceLeDiff, Int.reduceBEq, Int.reduceBNe, Int.reduceLT, Int.reduceLE, Int.reduceGT, Int.reduceGE, Int.reduceEq, ↓reduceIte, reduceCtorEq] <;> rfl) (fun h => by cases h) (fun _ => ?_)
          simp only [go_sem, Nat.reduceEqDiff, Nat.reduceAdd, Nat.reduceMul, Nat.reduceSub, Nat.reduceLeDiff, Int.reduceBEq, Int.reduceBNe, Int.reduceLT, Int.reduceLE, Int.reduceGT, Int.reduceGE, Int.reduceEq, ↓reduceIte, reduceCtorEq, f7, f9]
          refine wi_call ?_
          simp only [go_sem, Nat.reduceEqDiff, Nat.reduceAdd, Nat.reduceMul, Nat.reduceSub, Nat.reduceLeDiff, Int.reduceBEq, Int.reduceBNe, Int.reduceLT, Int.reduceLE, Int.reduceGT, Int.reduceGE, Int.reduceEq, ↓reduceIte, reduceCtorEq]
          refine same16_runs We.hc We.hr fun Sf kf => ?_
          simp only [go_sem, Nat.reduceEqDiff, Nat.reduceAdd, Nat.reduceMul, Nat.reduceSub, Nat.reduceLeDiff, Int.reduceBEq, Int.reduceBNe, Int.reduceLT, Int.reduceLE, Int.reduceGT, Int.reduceGE, Int.reduceEq, ↓reduceIte, reduceCtorEq]
          refine wc_ite (b := false) (by simp only [go_sem, Nat.reduceEqDiff, Nat.reduceAdd, Nat.reduceMul, Nat.reduceSub, Nat.reduceLeDiff, Int.reduceBEq, Int.reduceBNe, Int.reduceLT, Int.reduceLE, Int.reduceGT, Int.reduceGE, Int.reduceEq, ↓reduceIte, reduceCtorEq] <;> rfl) (fun h => by cases h) (fun _ => ?_)
          simp only [go_sem, Nat.reduceEqDiff, Nat.reduceAdd, Nat.reduceMul, Nat.reduceSub, Nat.reduceLeDiff, Int.reduceBEq, Int.reduceBNe, Int.reduceLT, Int.reduceLE, Int.reduceGT, Int.reduceGE, Int.reduceEq, ↓reduceIte, reduceCtorEq, f10, w1]
          exact ⟨20 - (j + 1), by omega, j + 1, Dc, tc, tkc, te, _, _, rfl, by omega, f1, f5, f7, f9, rfl, We.stay kf, hTa, by simp; omega⟩
        · have happ : Xa.app (shardN 1) ⟨1, o.d⟩ = (11, Xa) := by
            unfold CS.app
            rw [if_neg (by rw [hf]; simp), if_neg (by rw [hTa]; simp), Wa.hk.full Wa.hc.good n1 (by omega)]
            rfl
          rw [happ] at ac
          rw [happ]
          simp only [go_sem, Nat.reduceEqDiff, Nat.reduceAdd, Nat.reduceMul, Nat.reduceSub, Nat.reduceLeDiff, Int.reduceBEq, Int.reduceBNe, Int.reduceLT, Int.reduceLE, Int.reduceGT, Int.reduceGE, Int.reduceEq, ↓reduceIte, reduceCtorEq]
          refine wc_ite (b := false) (by simp only [go_sem, Nat.reduceEqDiff, Nat.reduceAdd, Nat.reduceMul, Nat.reduceSub, Nat.reduceLeDiff, Int.reduceBEq, Int.reduceBNe, Int.reduceLT, Int.reduceLE, Int.reduceGT, Int.reduceGE, Int.reduceEq, ↓reduceIte, reduceCtorEq] <;> rfl) (fun h => by cases h) (fun _ => ?_)
          simp only [go_sem, Nat.reduceEqDiff, Nat.reduceAdd, Nat.reduceMul, Nat.reduceSub, Nat.reduceLeDiff, Int.reduceBEq, Int.reduceBNe, Int.reduceLT, Int.reduceLE, Int.reduceGT, Int.reduceGE, Int.reduceEq, ↓reduceIte, reduceCtorEq]
          refine wc_ite (b := false) (by simp only [go_sem, Nat.reduceEqDiff, Nat.reduceAdd, Nat.reduceMul, Nat.reduceSub, Nat.reduceLeDiff, Int.reduceBEq, Int.reduceBNe, Int.reduceLT, Int.reduceLE, Int.reduceGT, Int.reduceGE, Int.reduceEq, ↓reduceIte, reduceCtorEq] <;> rfl) (fun h => by cases h) (fun _ => ?_)
          simp only [go_sem, Nat.reduceEqDiff, Nat.reduceAdd, Nat.reduceMul, Nat.reduceSub, Nat.reduceLeDiff, Int.reduceBEq, Int.reduceBNe, Int.reduceLT, Int.reduceLE, Int.reduceGT, Int.reduceGE, Int.reduceEq, ↓reduceIte, reduceCtorEq, f7, f9]
          refine wi_call ?_
          simp only [go_sem, Nat.reduceEqDiff, Nat.reduceAdd, Nat.reduceMul, Nat.reduceSub, Nat.reduceLeDiff, Int.reduceBEq, Int.reduceBNe, Int.reduceLT, Int.reduceLE, Int.reduceGT, Int.reduceGE, Int.reduceEq, ↓reduceIte, reduceCtorEq]
          have We := Wb.step ac Wa.hk (XAfter.refl (Wb.ref ac))
          refine same16_runs We.hc We.hr fun Sf kf => ?_
          simp only [go_sem, Nat.reduceEqDiff, Nat.reduceAdd, Nat.reduceMul, Nat.reduceSub, Nat.reduceLeDiff, Int.reduceBEq, Int.reduceBNe, Int.reduceLT, Int.reduceLE, Int.reduceGT, Int.reduceGE, Int.reduceEq, ↓reduceIte, reduceCtorEq]
          refine wc_ite (b := false) (by simp only [go_sem, Nat.reduceEqDiff, Nat.reduceAdd, Nat.reduceMul, Nat.reduceSub, Nat.reduceLeDiff, Int.reduceBEq, Int.reduceBNe, Int.reduceLT, Int.reduceLE, Int.reduceGT, Int.reduceGE, Int.reduceEq, ↓reduceIte, reduceCtorEq] <;> rfl) (fun h => by cases h) (fun _ => ?_)
          simp only [go_sem, Nat.reduceEqDiff, Nat.reduceAdd, Nat.reduceMul, Nat.reduceSub, Nat.reduceLeDiff, Int.reduceBEq, Int.reduceBNe, Int.reduceLT, Int.reduceLE, Int.reduceGT, Int.reduceGE, Int.reduceEq, ↓reduceIte, reduceCtorEq, f10, w1]
          exact ⟨20 - (j + 1), by omega, j + 1, Dc, tc, tkc, txa, Xa, esa, rfl, by omega, f1, f5, f7, f9, rfl, We.stay kf, hTa, by omega⟩
    · have fin : ∀ fr' : Fr, fr' 5 = .ptr (some (i, 0)) → fr' 9 = .ptr (some (x, 0)) → wCode (RSim Tryd.prog w0) s_l16_CopyFull_0 fr' Sa (resQ [.tmp 4] Q) := by
        intro fr' g5 g9
        have hd : Xa.D = Da.abs := Wa.hc.d
        have hv := Wa.hk.v
        have hro := Wa.hk.room
        rw [hd] at hv hro
        simp only [s_l16_CopyFull_0, go_sem, Nat.reduceEqDiff, Nat.reduceAdd, Nat.reduceMul, Nat.reduceSub, Nat.reduceLeDiff, Int.reduceBEq, Int.reduceBNe, Int.reduceLT, Int.reduceLE, Int.reduceGT, Int.reduceGE, Int.reduceEq, ↓reduceIte, reduceCtorEq, g5, g9]
        refine wi_call ?_
        simp only [go_sem, Nat.reduceEqDiff, Nat.reduceAdd, Nat.reduceMul, Nat.reduceSub, Nat.reduceLeDiff, Int.reduceBEq, Int.reduceBNe, Int.reduceLT, Int.reduceLE, Int.reduceGT, Int.reduceGE, Int.reduceEq, ↓reduceIte, reduceCtorEq]
        refine restart_ok (keep := []) (kt := .nil) Wa.hc.w.d hv hro (fun _ => rfl) fun Sb Db m h1 h2 _ db ab => ?_
        have hm : m = (fileB Xa.R).length := by omega
        subst hm
        rw [List.take_length, Wa.hk.r] at db
        simp only [go_sem, Nat.reduceEqDiff, Nat.reduceAdd, Nat.reduceMul, Nat.reduceSub, Nat.reduceLeDiff, Int.reduceBEq, Int.reduceBNe, Int.reduceLT, Int.reduceLE, Int.reduceGT, Int.reduceGE, Int.reduceEq, ↓reduceIte, reduceCtorEq, g5]
        refine wi_call ?_
        simp only [go_sem, Nat.reduceEqDiff, Nat.reduceAdd, Nat.reduceMul, Nat.reduceSub, Nat.reduceLeDiff, Int.reduceBEq, Int.reduceBNe, Int.reduceLT, Int.reduceLE, Int.reduceGT, Int.reduceGE, Int.reduceEq, ↓reduceIte, reduceCtorEq]
        refine copyOpen_calm (n := 1) (es := esa) (by decide) Wa.hk.ok (by omega) db fun Sc c' Dc g' t' tk' X' hc' hk' hX' kc oc => ?_
        have r1 : RefC Sb x txa Xa.T Xa.L := Wa.hr.keep ab.k fun j hj ho => Wa.dis j (.inl (.inl ho)) hj
        have r2 : RefC Sc x txa Xa.T Xa.L := r1.keep kc fun j hj ho => by
          rcases ab.o j ho with h | h
          · exact Wa.dis j (.inl (.inl h)) hj
          · have := Wa.hr.own_lt hj; omega
        rw [Wa.hk.t, Wa.hk.l, ← hk'.t, ← hk'.l] at r2
        simp only [go_sem, Nat.reduceEqDiff, Nat.reduceAdd, Nat.reduceMul, Nat.reduceSub, Nat.reduceLeDiff, Int.reduceBEq, Int.reduceBNe, Int.reduceLT, Int.reduceLE, Int.reduceGT, Int.reduceGE, Int.reduceEq, ↓reduceIte, reduceCtorEq, g9]
        refine wi_call ?_
        simp only [go_sem, Nat.reduceEqDiff, Nat.reduceAdd, Nat.reduceMul, Nat.reduceSub, Nat.reduceLeDiff, Int.reduceBEq, Int.reduceBNe, Int.reduceLT, Int.reduceLE, Int.reduceGT, Int.reduceGE, Int.reduceEq, ↓reduceIte, reduceCtorEq]
        refine same16_runs hc' r2 fun Sd kd => ?_
        simp only [go_sem, Nat.reduceEqDiff, Nat.reduceAdd, Nat.reduceMul, Nat.reduceSub, Nat.reduceLeDiff, Int.reduceBEq, Int.reduceBNe, Int.reduceLT, Int.reduceLE, Int.reduceGT, Int.reduceGE, Int.reduceEq, ↓reduceIte, reduceCtorEq]
        exact hQ Sd
      by_cases hj1 : j < L.length
      · have q1 : decide ((j : Int) < (L.length : Int)) = true := decide_eq_true (by omega)
        have q2 : decide ((j : Int) < 20) = false := decide_eq_false (by omega)
        simp only [go_sem, Nat.reduceEqDiff, Nat.reduceAdd, Nat.reduceMul, Nat.reduceSub, Nat.reduceLeDiff, Int.reduceBEq, Int.reduceBNe, Int.reduceLT, Int.reduceLE, Int.reduceGT, Int.reduceGE, Int.reduceEq, ↓reduceIte, reduceCtorEq, q1, q2, f10]
        refine wc_ite (b := false) (by simp only [go_sem, Nat.reduceEqDiff, Nat.reduceAdd, Nat.reduceMul, Nat.reduceSub, Nat.reduceLeDiff, Int.reduceBEq, Int.reduceBNe, Int.reduceLT, Int.reduceLE, Int.reduceGT, Int.reduceGE, Int.reduceEq, ↓reduceIte, reduceCtorEq] <;> rfl) (fun h => by cases h) (fun _ => ?_)
        simp only [go_sem, Nat.reduceEqDiff, Nat.reduceAdd, Nat.reduceMul, Nat.reduceSub, Nat.reduceLeDiff, Int.reduceBEq, Int.reduceBNe, Int.reduceLT, Int.reduceLE, Int.reduceGT, Int.reduceGE, Int.reduceEq, ↓reduceIte, reduceCtorEq]
        exact fin _ (by simp only [go_sem, Nat.reduceEqDiff, Nat.reduceAdd, Nat.reduceMul, Nat.reduceSub, Nat.reduceLeDiff, Int.reduceBEq, Int.reduceBNe, Int.reduceLT, Int.reduceLE, Int.reduceGT, Int.reduceGE, Int.reduceEq, ↓reduceIte, reduceCtorEq, f5]) (by simp only [go_sem, Nat.reduceEqDiff, Nat.reduceAdd, Nat.reduceMul, Nat.reduceSub, Nat.reduceLeDiff, Int.reduceBEq, Int.reduceBNe, Int.reduceLT, Int.reduceLE, Int.reduceGT, Int.reduceGE, Int.reduceEq, ↓reduceIte, reduceCtorEq, f9])
      · have q1 : decide ((j : Int) < (L.length : Int)) = false := decide_eq_false (by omega)
        simp only [go_sem, Nat.reduceEqDiff, Nat.reduceAdd, Nat.reduceMul, Nat.reduceSub, Nat.reduceLeDiff, Int.reduceBEq, Int.reduceBNe, Int.reduceLT, Int.reduceLE, Int.reduceGT, Int.reduceGE, Int.reduceEq, ↓reduceIte, reduceCtorEq, q1, f10]
        refine wc_ite (b := false) (by simp only [go_sem, Nat.reduceEqDiff, Nat.reduceAdd, Nat.reduceMul, Nat.reduceSub, Nat.reduceLeDiff, Int.reduceBEq, Int.reduceBNe, Int.reduceLT, Int.reduceLE, Int.reduceGT, Int.reduceGE, Int.reduceEq, ↓reduceIte, reduceCtorEq] <;> rfl) (fun h => by cases h) (fun _ => ?_)
        simp only [go_sem, Nat.reduceEqDiff, Nat.reduceAdd, Nat.reduceMul, Nat.reduceSub, Nat.reduceLeDiff, Int.reduceBEq, Int.reduceBNe, Int.reduceLT, Int.reduceLE, Int.reduceGT, Int.reduceGE, Int.reduceEq, ↓reduceIte, reduceCtorEq]
        exact fin _ (by simp only [go_sem, Nat.reduceEqDiff, Nat.reduceAdd, Nat.reduceMul, Nat.reduceSub, Nat.reduceLeDiff, Int.reduceBEq, Int.reduceBNe, Int.reduceLT, Int.reduceLE, Int.reduceGT, Int.reduceGE, Int.reduceEq, ↓reduceIte, reduceCtorEq, f5]) (by simp only [go_sem, Nat.reduceEqDiff, Nat.reduceAdd, Nat.reduceMul, Nat.reduceSub, Nat.reduceLeDiff, Int.reduceBEq, Int.reduceBNe, Int.reduceLT, Int.reduceLE, Int.reduceGT, Int.reduceGE, Int.reduceEq, ↓reduceIte, reduceCtorEq, f9])
  · have hm : X.mark (shardN 1) ⟨1, 1, 1⟩ = (11, X) := by
      unfold CS.mark
      rw [W.hk.full W.hc.good n1 (by omega)]
      rfl
    rw [hm] at a4
    rw [hm]
    simp only [go_sem, Nat.reduceEqDiff, Nat.reduceAdd, Nat.reduceMul, Nat.reduceSub, Nat.reduceLeDiff, Int.reduceBEq, Int.reduceBNe, Int.reduceLT, Int.reduceLE, Int.reduceGT, Int.reduceGE, Int.reduceEq, ↓reduceIte, reduceCtorEq]
    refine wc_ite (b := true) (by simp only [go_sem, Nat.reduceEqDiff, Nat.reduceAdd, Nat.reduceMul, Nat.reduceSub, Nat.reduceLeDiff, Int.reduceBEq, Int.reduceBNe, Int.reduceLT, Int.reduceLE, Int.reduceGT, Int.reduceGE, Int.reduceEq, ↓reduceIte, reduceCtorEq] <;> rfl) (fun _ => ?_) (fun h => by cases h)
    simp only [go_sem, Nat.reduceEqDiff, Nat.reduceAdd, Nat.reduceMul, Nat.reduceSub, Nat.reduceLeDiff, Int.reduceBEq, Int.reduceBNe, Int.reduceLT, Int.reduceLE, Int.reduceGT, Int.reduceGE, Int.reduceEq, ↓reduceIte, reduceCtorEq]
    refine wi_call ?_
    simp only [go_sem, Nat.reduceEqDiff, Nat.reduceAdd, Nat.reduceMul, Nat.reduceSub, Nat.reduceLeDiff, Int.reduceBEq, Int.reduceBNe, Int.reduceLT, Int.reduceLE, Int.reduceGT, Int.reduceGE, Int.reduceEq, ↓reduceIte, reduceCtorEq]
    refine copyLen_runs a4.w ?_
    have z : ((X.L.length : Nat) : Int) = 0 := by rw [hX0.2.1]; rfl
    simp only [z]
    simp only [go_sem, Nat.reduceEqDiff, Nat.reduceAdd, Nat.reduceMul, Nat.reduceSub, Nat.reduceLeDiff, Int.reduceBEq, Int.reduceBNe, Int.reduceLT, Int.reduceLE, Int.reduceGT, Int.reduceGE, Int.reduceEq, ↓reduceIte, reduceCtorEq]
    refine wi_call ?_
    simp only [go_sem, Nat.reduceEqDiff, Nat.reduceAdd, Nat.reduceMul, Nat.reduceSub, Nat.reduceLeDiff, Int.reduceBEq, Int.reduceBNe, Int.reduceLT, Int.reduceLE, Int.reduceGT, Int.reduceGE, Int.reduceEq, ↓reduceIte, reduceCtorEq]
    refine copyTerms_runs a4.w fun S5 k5 => ?_
    simp only [Tm.v, hX0.1]
    have z0 : (((0 : Nat) : Int) == 0) = true := rfl
    simp only [go_sem, Nat.reduceEqDiff, Nat.reduceAdd, Nat.reduceMul, Nat.reduceSub, Nat.reduceLeDiff, Int.reduceBEq, Int.reduceBNe, Int.reduceLT, Int.reduceLE, Int.reduceGT, Int.reduceGE, Int.reduceEq, ↓reduceIte, reduceCtorEq, z0]
    exact hQ _
end Go.VM
