/-
  CopyPlays: the walk. NEWPP
-/
import Derived.Test.YtegaflmefmlpgaaGreatDoorCStep
set_option maxRecDepth 20000
set_option linter.unusedVariables false
set_option linter.unusedSimpArgs false
namespace Go.VM
open Go Go.RowKit Go.Proofs

theorem act_at' {v : V} {A : List CAct} {ta : Tok} {cs0 : List V} (hA : IsSlice CActR 7 v A ta) (e : v = .sl cs0 A.length 7 ta) {j : Nat} {a : CAct} (hx : A[j]? = some a) :
    ∃ tl rest, cs0.drop (j * 7) = a.v tl ++ rest ∧ (tl = .nil → a.l = []) ∧ a.Ok ∧ (j < A.length) ∧ ta ≠ .nil := by
  obtain ⟨cs, cell, e1, hne, hj, _, _, ht, hR⟩ := hA.at_ hx
  rw [e] at e1
  injection e1 with e1 _
  subst e1
  obtain ⟨tl, rfl, h1, h2, _⟩ := hR
  exact ⟨tl, (cs0.drop (j * 7)).drop 7, by rw [← ht, List.take_append_drop], h1, h2, hj, hne⟩
theorem copyOpen_bad {w0 : World} {S : St} {Q : AEnd → St → Prop} {v : V} {n : Int} (h : n < 0 ∨ n ≥ 8) (hQ : Q (.ret (.tup [.ptr none, .int .i64 1])) S) : RSim Tryz.prog w0 n_copy_Open [v, .int .i64 n] S Q := by
  by_cases h0 : n < 0
  · have q : decide (n < 0) = true := decide_eq_true h0
    refine RSim.run mixed k_copy_Open ?_ (by simp)
    simp only [b_copy_Open, go_sem, q]
    refine wc_ite (b := true) (by simp only [go_sem] <;> rfl) (fun _ => ?_) (fun h => by cases h)
    simp only [go_sem]
    exact hQ
  · have q : decide (n < 0) = false := decide_eq_false h0
    have q2 : decide (n ≥ 8) = true := decide_eq_true (h.resolve_left h0)
    refine RSim.run mixed k_copy_Open ?_ (by simp)
    simp only [b_copy_Open, go_sem, q, q2]
    refine wc_ite (b := true) (by simp only [go_sem] <;> rfl) (fun _ => ?_) (fun h => by cases h)
    simp only [go_sem]
    exact hQ

/-- From the question how many entries an act has on. -/
theorem plays_tail {w0 : World} {S : St} {Q : CPost} {c i g x N : Nat} {D : Dk} {s : List UInt8} {t tk tx tl : Tok} {X : CS} {es : List Rec} {a : CAct} {fr : Fr} (W : Two S c i g D s t tk X es 4194304 x tx) (n1 : nameOk s = true) (n2 : nameOk (newN s) = true)
    (ha : a.Ok) (htl : tl = .nil → a.l = []) (he : es.length ≤ 1240) (f7 : fr 7 = .ptr (some (c, 0))) (f9 : fr 9 = .ptr (some (x, 0))) (f11 : fr 11 = .ptr (some (N, 0))) (cN : S.cells N = some (a.v tl))
    (hret : ∀ fr' S', fr' 4 = .bool true → Q .ret fr' S')
    (hnorm : ∀ S' D' t' tk' X' es' tx', Two S' c i g D' s t' tk' X' es' 4194304 x tx' → es'.length ≤ es.length + 31 → ∀ fr', fr' 0 = fr 0 → fr' 1 = fr 1 → fr' 5 = fr 5 → fr' 7 = fr 7 → fr' 9 = fr 9 → fr' 10 = fr 10 → Q .normal fr' S') :
    wCode (RSim Tryz.prog w0) r_l16_CopyPlays_1 fr S Q := by
  have q3 : decide ((a.l.length : Int) > 30) = decide (30 < a.l.length) := decide_eq_decide.mpr (by omega)
  have e7 : takeC true 7 (a.v tl) = some (.agg (a.v tl)) := by simp [takeC, CAct.v, opsV]
  have cN' := cN
  simp only [CAct.v, opsV] at cN e7
  simp only [r_l16_CopyPlays_1, go_sem, f11, cN, q3]
  refine wc_ite (b := decide (30 < a.l.length)) (by simp only [go_sem]) (fun hc => ?_) (fun hc => ?_)
  · simp only [go_sem]
    exact hret _ _ (by simp only [go_sem])
  have hl30 := of_decide_eq_false hc
  simp only [go_sem, r_l16_CopyPlays_0, f7, f9, f11, cN]
  refine wi_call ?_
  simp only [go_sem]
  refine do_calm (a := a) (tl := tl) W n1 n2 ha htl (by omega) (by omega) (by omega) fun Se De te tke Xe ese txe We eT eL hes ke oe => ?_
  have hb : ((docDo a (X.T, X.L)).1 != (docDo a (X.T, X.L)).1) = false := by simp
  simp only [go_sem, hb, f7, f9]
  refine wi_call ?_
  simp only [go_sem]
  refine same16_runs We.hc We.hr fun Sf kf => ?_
  simp only [go_sem]
  refine wc_ite (b := false) (by simp only [go_sem] <;> rfl) (fun h => by cases h) (fun _ => ?_)
  simp only [go_sem]
  exact hnorm Sf De te tke Xe ese txe (We.stay kf) hes _ (by simp only [go_sem]) (by simp only [go_sem]) (by simp only [go_sem]) (by simp only [go_sem, f7]) (by simp only [go_sem, f9]) (by simp only [go_sem])

theorem copyPlays_runs {w0 : World} {v : V} {A : List CAct} {ta : Tok} {n : Int} (hA : IsSlice CActR 7 v A ta) {S : St} {Q : AEnd → St → Prop} (hQ : ∀ S', Q (.ret (.bool true)) S') : RSim Tryz.prog w0 n_l16_CopyPlays [.int .i64 n, v] S Q := by
  obtain ⟨cs0, ev⟩ := hA.len
  have hat := fun {j : Nat} {a : CAct} (hx : A[j]? = some a) => act_at' hA ev hx
  clear hA
  subst ev
  refine RSim.run mixed k_l16_CopyPlays ?_ (by simp)
  simp only [b_l16_CopyPlays, go_sem]
  refine wi_call ?_
  simp only [go_sem]
  refine copyAwake_runs fun S0 _ => ?_
  simp only [go_sem]
  refine wc_ite (b := false) (by simp only [go_sem] <;> rfl) (fun h => by cases h) (fun _ => ?_)
  simp only [go_sem, r_l16_CopyPlays_3]
  refine wi_call ?_
  simp only [go_sem]
  by_cases hbad : n < 0 ∨ n ≥ 8
  · refine new_ok (shardN 0) (by decide) (by decide) fun S1 i D d hcl ho1 k1 => ?_
    simp only [go_sem]
    refine wi_call ?_
    simp only [go_sem]
    refine copyOpen_bad hbad ?_
    have hb : decide (n < 0) = true ∨ decide (n < 0) = false ∧ decide (n > 7) = true := by
      by_cases h0 : n < 0
      · exact .inl (decide_eq_true h0)
      · exact .inr ⟨decide_eq_false h0, decide_eq_true (by omega)⟩
    rcases hb with q | ⟨q, q2⟩
    · simp only [go_sem, q]
      refine wc_ite (b := true) (by simp only [go_sem] <;> rfl) (fun _ => ?_) (fun h => by cases h)
      simp only [go_sem]
      exact hQ _
    · simp only [go_sem, q, q2]
      refine wc_ite (b := true) (by simp only [go_sem] <;> rfl) (fun _ => ?_) (fun h => by cases h)
      simp only [go_sem]
      exact hQ _
  obtain ⟨m, rfl⟩ : ∃ m : Nat, n = (m : Int) := ⟨n.toNat, by omega⟩
  have hm8 : m < 8 := by omega
  obtain ⟨n1, n2⟩ := shardN_ok hm8
  have q0 : decide ((m : Int) < 0) = false := decide_eq_false (by omega)
  have q7 : decide ((m : Int) > 7) = false := decide_eq_false (by omega)
  refine new_ok (shardN m) (by decide) (by decide) fun S1 i D d hcl ho1 k1 => ?_
  simp only [go_sem]
  refine wi_call ?_
  simp only [go_sem]
  refine copyOpen_calm (n := m) (es := []) (room := 4194304) hm8 (fun e h => by cases h) (by decide) d fun S2 c D2 g t tk X hc hk hX k2 o2 => ?_
  simp only [go_sem, q0, q7]
  refine wc_ite (b := false) (by simp only [go_sem] <;> rfl) (fun h => by cases h) (fun _ => ?_)
  simp only [go_sem]
  refine wc_ite (b := false) (by simp only [go_sem] <;> rfl) (fun h => by cases h) (fun _ => ?_)
  simp only [go_sem, r_l16_CopyPlays_2]
  have k3 : Keeps (fun _ => False) S2 (S2.add (.cells [.int .u64 0, .int .u64 0, .int .u64 0, .sl [] 0 4 .nil])) := (Keeps.refl _ _).add _
  have hR : RefC (S2.add (.cells [.int .u64 0, .int .u64 0, .int .u64 0, .sl [] 0 4 .nil])) S2.n .nil X.T X.L := by
    subst hX
    exact ⟨by rw [cells_addc, if_pos rfl]; rfl, fun _ => rfl, by rw [St.add_n]; omega, trivial, tm0, fun o h => (by cases h), by simp [replayAll]⟩
  have W : Two (S2.add (.cells [.int .u64 0, .int .u64 0, .int .u64 0, .sl [] 0 4 .nil])) c i g D2 (shardN m) t tk X [] 4194304 S2.n .nil := ⟨hc.stay k3, hk, hR, fun j ho hx => by
    rcases hx with rfl | hx
    · have := hc.own_lt ho; omega
    · cases hx⟩
  generalize S2.add (.cells [.int .u64 0, .int .u64 0, .int .u64 0, .sl [] 0 4 .nil]) = S3 at *
  clear hX hR k3
  obtain ⟨x, hx⟩ : ∃ x, x = S2.n := ⟨_, rfl⟩
  rw [← hx] at W
  refine loop_rule RSim.le (k := 40) (fun mm fr Sa => ∃ (j c g : Nat) (Da : Dk) (t1 tka txa : Tok) (Xa : CS) (esa : List Rec), mm = 40 - j ∧ j ≤ 40 ∧ fr 0 = .int .i64 (m : Nat) ∧ fr 1 = .sl cs0 A.length 7 ta ∧ fr 5 = .ptr (some (i, 0)) ∧ fr 7 = .ptr (some (c, 0)) ∧ fr 9 = .ptr (some (x, 0)) ∧ fr 10 = .int .i64 (j : Nat) ∧ Two Sa c i g Da (shardN m) t1 tka Xa esa 4194304 x txa ∧ esa.length ≤ 31 * j) ?_
    ⟨0, c, g, D2, t, tk, .nil, X, [], rfl, by omega, by simp only [go_sem], by simp only [go_sem], by simp only [go_sem], by simp only [go_sem], by simp only [go_sem, hx], by simp only [go_sem]; rfl, W, by simp⟩
  clear hk hc W o2 k2
  rintro mm fr Sa ⟨j, c, g, Da, t1, tka, txa, Xa, esa, hm, hj, f0, f1, f5, f7, f9, f10, Wa, hea⟩
  simp only [l_l16_CopyPlays_0, go_sem, f1, f10]
  by_cases hlt : j < A.length ∧ j < 40
  · have q1 : decide ((j : Int) < (A.length : Int)) = true := decide_eq_true (by omega)
    have q2 : decide ((j : Int) < 40) = true := decide_eq_true (by omega)
    obtain ⟨a, ha⟩ : ∃ a, A[j]? = some a := ⟨_, List.getElem?_eq_getElem hlt.1⟩
    obtain ⟨tl, rest, dx, htl, hao, hjl, hne⟩ := hat ha
    have ja : (j < A.length) = True := eq_true hlt.1
    have na : (ta = .nil) = False := eq_false hne
    have w1 : IntKind.i64.wrap ((j : Int) + 1) = ((j + 1 : Nat) : Int) := by rw [w64 (by omega) (by omega)]; omega
    have tm : ((a.k : Nat) : Int).tmod 5 = ((a.k % 5 : Nat) : Int) := by rw [Int.tmod_eq_emod_of_nonneg (by omega)]; omega
    have q4 : (((a.k % 5 : Nat) : Int) == 4) = decide (a.k % 5 = 4) := by rw [Bool.eq_iff_iff, beq_iff_eq, decide_eq_true_iff]; omega
    have e7 : takeC true 7 (a.v tl ++ rest) = some (.agg (a.v tl)) := by simp [takeC, CAct.v, opsV]
    have kb : Keeps (fun _ => False) Sa ((Sa.add (.cells [.int .u8 0, .int .u64 0, .int .u64 0, .str (mkS []), .int .i64 0, .str (mkS []), .sl [] 0 4 .nil])).set Sa.n (.cells (a.v tl))) := ((Keeps.refl _ Sa).add _).set (.inr (Nat.le_refl _)) _
    have cb : ((Sa.add (.cells [.int .u8 0, .int .u64 0, .int .u64 0, .str (mkS []), .int .i64 0, .str (mkS []), .sl [] 0 4 .nil])).set Sa.n (.cells (a.v tl))).cells Sa.n = some (a.v tl) := by rw [cells_setc, if_pos rfl]
    have lb : Sa.n < ((Sa.add (.cells [.int .u8 0, .int .u64 0, .int .u64 0, .str (mkS []), .int .i64 0, .str (mkS []), .sl [] 0 4 .nil])).set Sa.n (.cells (a.v tl))).n := by rw [St.set_n, St.add_n]; omega
    have Wb := Wa.stay kb
    have cb' := cb
    have nb : ∀ k, ownC c i g Da t1 tka k ∨ ownX x txa k → k < Sa.n := fun k h => h.elim Wa.hc.own_lt Wa.hr.own_lt
    simp only [CAct.v, opsV, List.cons_append, List.nil_append] at dx e7 kb cb lb Wb
    simp only [go_sem, q1, q2, f10]
    refine wc_ite (b := true) (by simp only [go_sem] <;> rfl) (fun _ => ?_) (fun h => by cases h)
    simp only [go_sem, k_l16_CopyPlays_0, f1, f10, dx, ja, na, tm, q4]
    simp only [CAct.v, opsV] at cb'
    generalize (Sa.add (.cells [.int .u8 0, .int .u64 0, .int .u64 0, .str (mkS []), .int .i64 0, .str (mkS []), .sl [] 0 4 .nil])).set Sa.n (.cells [.int .u8 (a.k : Nat), .int .u64 (a.t : Nat), .int .u64 (a.o.t : Nat), .str (mkS a.o.d.id), .int .i64 a.o.d.tm, .str (mkS a.o.d.tx), .sl (a.l.flatMap Op.v) a.l.length 4 tl]) = Sb at *
    refine wc_ite (b := decide (a.k % 5 = 4)) (by simp only [go_sem]) (fun hc => ?_) (fun hc => ?_)
    · simp only [go_sem, f5]
      refine wi_call ?_
      simp only [go_sem]
      have hd : Xa.D = Da.abs := Wa.hc.d
      have hv := Wa.hk.v
      have hro := Wa.hk.room
      rw [hd] at hv hro
      refine restart_ok (keep := []) (kt := .nil) Wb.hc.w.d hv hro (fun _ => rfl) fun Sc Dc m' h1 h2 _ db ab => ?_
      have hm' : m' = (fileB Xa.R).length := by omega
      subst hm'
      rw [List.take_length, Wa.hk.r] at db
      simp only [go_sem, f0, f5]
      refine wi_call ?_
      simp only [go_sem]
      refine copyOpen_calm (n := m) (es := esa) hm8 Wa.hk.ok (by omega) db fun Sd c' Dd g' t' tk' X' hc' hk' hX' kc oc => ?_
      have r1 : RefC Sc x txa Xa.T Xa.L := Wb.hr.keep ab.k fun k hk ho => Wb.dis k (.inl (.inl ho)) hk
      have r2 : RefC Sd x txa Xa.T Xa.L := r1.keep kc fun k hk ho => by
        rcases ab.o k ho with h | h
        · exact Wb.dis k (.inl (.inl h)) hk
        · have := Wb.hr.own_lt hk; omega
      rw [Wa.hk.t, Wa.hk.l, ← hk'.t, ← hk'.l] at r2
      have cc := ab.k.cells cb lb fun h => by have := nb _ (.inl (.inl (.inl h))); omega
      have lc := ab.k.lt lb
      have cd := kc.cells cc lc fun ho => by
        rcases ab.o _ ho with h | h
        · have := nb _ (.inl (.inl (.inl h))); omega
        · omega
      have Wd : Two Sd c' i g' Dd (shardN m) t' tk' X' esa 4194304 x txa := ⟨hc', hk', r2, fun k ho hk => by
        have hkl := Wb.hr.own_lt hk
        rcases oc k ho with h | h
        · rcases ab.o k h with h | h
          · exact Wb.dis k (.inl (.inl h)) hk
          · omega
        · have := ab.k.n; omega⟩
      simp only [go_sem]
      refine wc_ite (b := false) (by simp only [go_sem] <;> rfl) (fun h => by cases h) (fun _ => ?_)
      simp only [go_sem]
      refine plays_tail (N := Sa.n) (a := a) (tl := tl) Wd n1 n2 hao htl (by omega) (by simp only [go_sem]) (by simp only [go_sem, f9]) (by simp only [go_sem]) cd (fun fr' S' f4 => ?_) fun Se De te tke Xe ese txe We hes fr' g0 g1 g5 g7 g9 g10 => ?_
      · simp only [go_sem, f4]
        exact hQ S'
      · simp only [go_sem, f0, f1, f5, f9, f10] at g0 g1 g5 g7 g9 g10
        simp only [go_sem, g10, w1]
        exact ⟨40 - (j + 1), by omega, j + 1, c', g', De, te, tke, txe, Xe, ese, rfl, by omega, g0, g1, g5, g7, g9, rfl, We, by omega⟩
    · simp only [go_sem]
      refine plays_tail (N := Sa.n) (a := a) (tl := tl) Wb n1 n2 hao htl (by omega) (by simp only [go_sem, f7]) (by simp only [go_sem, f9]) (by simp only [go_sem]) cb (fun fr' S' f4 => ?_) fun Se De te tke Xe ese txe We hes fr' g0 g1 g5 g7 g9 g10 => ?_
      · simp only [go_sem, f4]
        exact hQ S'
      · simp only [go_sem, f0, f1, f5, f7, f9, f10] at g0 g1 g5 g7 g9 g10
        simp only [go_sem, g10, w1]
        exact ⟨40 - (j + 1), by omega, j + 1, c, g, De, te, tke, txe, Xe, ese, rfl, by omega, g0, g1, g5, g7, g9, rfl, We, by omega⟩
  · by_cases hj1 : j < A.length
    · have q1 : decide ((j : Int) < (A.length : Int)) = true := decide_eq_true (by omega)
      have q2 : decide ((j : Int) < 40) = false := decide_eq_false (by omega)
      simp only [go_sem, q1, q2, f10]
      refine wc_ite (b := false) (by simp only [go_sem] <;> rfl) (fun h => by cases h) (fun _ => ?_)
      simp only [go_sem]
      exact hQ _
    · have q1 : decide ((j : Int) < (A.length : Int)) = false := decide_eq_false (by omega)
      simp only [go_sem, q1, f10]
      refine wc_ite (b := false) (by simp only [go_sem] <;> rfl) (fun h => by cases h) (fun _ => ?_)
      simp only [go_sem]
      exact hQ _
end Go.VM
