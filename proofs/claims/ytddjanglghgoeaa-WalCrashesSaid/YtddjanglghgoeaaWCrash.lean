/-
  WalCrashes. NEWPP
-/
import Derived.Test.YtddjanglghgoeaaWMany
set_option maxRecDepth 20000
set_option linter.unusedVariables false
set_option linter.unusedSimpArgs false
namespace Go.VM
open Go Go.RowKit Go.Proofs

abbrev logN : List UInt8 := [108, 111, 103]
theorem write_off {D : DS} {s : List UInt8} {L : List (List UInt8)} (hn : nameOk (newN s) = true) (ho : D.off = true) (hL : shortL L) : D.writeL s L = (10, D) := by
  have e0 : D.writeL s L = DS.write1 (D.grow (newN s) (fileB L) true) s := if_neg (by rw [longL_not hL]; decide)
  rw [e0, grow_off hn ho]
  simp [DS.write1, DS.write2, DS.write3]
/-- In the middle of it: the file has a beginning of the records, so much of it durable; the log has at least the first ones. -/
structure Cr (S : St) (i g : Nat) (D : Dk) (t : Tok) (R F X : List (List UInt8)) (q : Nat) : Prop where
  w : WalAt S i g D logN R t
  v : WD D.abs logN (fileB (F ++ X)) q
  c : D.abs.clean logN
  room : D.abs.room = 8388608
  pre : ∃ Y, R = F ++ Y
  short : shortL R
  few : R.length ≤ 30
theorem shortL_app {A B : List (List UInt8)} (h : shortL A) (h' : shortL B) : shortL (A ++ B) := fun r hr => (List.mem_append.1 hr).elim (h r) (h' r)
theorem shortL_take {A : List (List UInt8)} (h : shortL A) (k : Nat) : shortL (A.take k) := fun r hr => h r (List.mem_of_mem_take hr)

theorem crash_rest {w0 : World} {fr : Fr} {S : St} {Q : AEnd → St → Prop} {i g j sN q : Nat} {D : Dk} {t t0 t2 t15 kt : Tok} {R F G T : List (List UInt8)} {v0 v2 v15 : V} {keep : List Int} (h : Cr S i g D t R F (G.take j) q)
    (hF : shortL F) (hG : shortL G) (hT : shortL T) (hn : F.length + G.length + T.length ≤ 30) (i0 : IsSlice BytesR 1 v0 F t0) (i2 : IsSlice BytesR 1 v2 T t2) (i15 : IsSlice BytesR 1 v15 (F ++ G) t15) (hk : kt = .nil → keep = [])
    (g0 : fr 0 = v0) (g2 : fr 2 = v2) (g4 : fr 4 = intsV keep kt) (g11 : fr 11 = .ptr (some (i, 0))) (g13 : fr 13 = .ptr (some (g, 0))) (g15 : fr 15 = v15) (g17 : fr 17 = .int .i64 sN)
    (hj : j ≤ G.length) (s1 : sN ≤ F.length + j) (s2 : (fileB ((F ++ G).take sN)).length ≤ q) (s3 : q ≤ (fileB (F ++ G.take j)).length) (hQ : ∀ S', Q (.ret (.bool true)) S') :
    wCode (RSim Try.prog w0) r_l04_WalCrashes_0 fr S (resQ [.tmp 10] Q) := by
  have hA : nameOk logN = true := by decide
  have hB : nameOk (newN logN) = true := by decide
  obtain ⟨cs, rfl⟩ := i0.len
  obtain ⟨Y, hY⟩ := h.pre
  have w1 : Int.tdiv (F.length : Int) 2 = ((F.length / 2 : Nat) : Int) := by
    rw [Int.tdiv_eq_ediv_of_nonneg (by omega)]; omega
  have w1' : IntKind.i64.wrap ((F.length / 2 : Nat) : Int) = ((F.length / 2 : Nat) : Int) := w64 (by omega) (by omega)
  have hkF : F.length / 2 ≤ F.length := Nat.div_le_self _ _
  have hkt : (F.length / 2 ≤ F.length) = True := eq_true hkF
  have hkR : F.length / 2 ≤ R.length := by rw [hY, List.length_append]; omega
  have hRk : R.take (F.length / 2) = F.take (F.length / 2) := by rw [hY, List.take_append_of_le_length hkF]
  have hkl : (F.take (F.length / 2)).length = F.length / 2 := by rw [List.length_take]; omega
  simp only [r_l04_WalCrashes_0, go_sem, Nat.reduceEqDiff, Nat.reduceAdd, Nat.reduceMul, Nat.reduceSub, Nat.reduceLeDiff, Int.reduceBEq, Int.reduceBNe, Int.reduceLT, Int.reduceLE, Int.reduceGT, Int.reduceGE, Int.reduceEq, ↓reduceIte, reduceCtorEq, g0, g2, g4, g11, g13, g15, g17, w1, w1', hkt]
  have hcut := i0.cut hkF
  generalize (if t0 = .nil then V.sl cs F.length 1 t0 else V.sl (cs.take ((F.length / 2 - 0) * 1)) (F.length / 2 - 0) 1 (if F.length / 2 = F.length then t0 else .no)) = vc at hcut ⊢
  refine wi_appendL (L := []) (M := F.take (F.length / 2)) (v := .sl [] 0 1 .nil) (w := vc) (by simp only [go_sem, Nat.reduceEqDiff, Nat.reduceAdd, Nat.reduceMul, Nat.reduceSub, Nat.reduceLeDiff, Int.reduceBEq, Int.reduceBNe, Int.reduceLT, Int.reduceLE, Int.reduceGT, Int.reduceGE, Int.reduceEq, ↓reduceIte, reduceCtorEq]) (isSlice_nil BytesR 1) (by simp only [go_sem, Nat.reduceEqDiff, Nat.reduceAdd, Nat.reduceMul, Nat.reduceSub, Nat.reduceLeDiff, Int.reduceBEq, Int.reduceBNe, Int.reduceLT, Int.reduceLE, Int.reduceGT, Int.reduceGE, Int.reduceEq, ↓reduceIte, reduceCtorEq]) hcut (by rw [hkl]; simp; omega) trivial fun ta Sa va hva ka hta hna => ?_
  rw [List.nil_append] at hva
  simp only [go_sem, Nat.reduceEqDiff, Nat.reduceAdd, Nat.reduceMul, Nat.reduceSub, Nat.reduceLeDiff, Int.reduceBEq, Int.reduceBNe, Int.reduceLT, Int.reduceLE, Int.reduceGT, Int.reduceGE, Int.reduceEq, ↓reduceIte, reduceCtorEq, g2]
  refine wi_appendL (L := F.take (F.length / 2)) (M := T) (v := va) (w := v2) (by simp only [go_sem, Nat.reduceEqDiff, Nat.reduceAdd, Nat.reduceMul, Nat.reduceSub, Nat.reduceLeDiff, Int.reduceBEq, Int.reduceBNe, Int.reduceLT, Int.reduceLE, Int.reduceGT, Int.reduceGE, Int.reduceEq, ↓reduceIte, reduceCtorEq]) hva (by simp only [go_sem, Nat.reduceEqDiff, Nat.reduceAdd, Nat.reduceMul, Nat.reduceSub, Nat.reduceLeDiff, Int.reduceBEq, Int.reduceBNe, Int.reduceLT, Int.reduceLE, Int.reduceGT, Int.reduceGE, Int.reduceEq, ↓reduceIte, reduceCtorEq, g2]) i2 (by rw [hkl]; omega) hta fun tb Sb vb hvb kb htb hnb => ?_
  have ka' : Keeps (fun _ => False) S Sa := ka.mono fun j _ h => (by cases h)
  have kb' : Keeps (fun _ => False) S Sb := keeps_new ka' kb hna
  have wb := h.w.stay kb'
  have hm : shortL (F.take (F.length / 2) ++ T) := shortL_app (shortL_take hF _) hT
  have lm := fileB_few (b := 65535) (by decide) hm
  have lml : (F.take (F.length / 2) ++ T).length ≤ 30 := by rw [List.length_append, hkl]; omega
  have lp := fileB_few (b := 65535) (by decide) (shortL_app hF (shortL_take hG j))
  have lpl : (F ++ G.take j).length ≤ 30 := by rw [List.length_append, List.length_take]; omega
  have lm' : (fileB (F.take (F.length / 2) ++ T)).length ≤ 1966320 := Nat.le_trans lm (by have := Nat.mul_le_mul_right (65535 + 9) lml; omega)
  have lp' : (fileB (F ++ G.take j)).length ≤ 1966320 := Nat.le_trans lp (by have := Nat.mul_le_mul_right (65535 + 9) lpl; omega)
  have hX : shortL (F ++ G.take j) := shortL_app hF (shortL_take hG j)
  have hFGl : (F ++ G).length = F.length + G.length := List.length_append
  have hw : ((D.abs.writeL logN (F.take (F.length / 2) ++ T)).1 = 0 ∧ WD (D.abs.writeL logN (F.take (F.length / 2) ++ T)).2 logN (fileB (F.take (F.length / 2) ++ T)) (fileB (F.take (F.length / 2) ++ T)).length ∧ (D.abs.writeL logN (F.take (F.length / 2) ++ T)).2.room = 8388608) ∨
      ((D.abs.writeL logN (F.take (F.length / 2) ++ T)).1 = 10 ∧ WD (D.abs.writeL logN (F.take (F.length / 2) ++ T)).2 logN (fileB (F ++ G.take j)) q ∧ (D.abs.writeL logN (F.take (F.length / 2) ++ T)).2.room = 8388608) := by
    cases hoff : D.abs.off
    · rcases write_eff h.v h.w.d.good h.c hA hB hoff hm (by rw [h.room]; omega) with ⟨e1, e2, _, _, _, e3, _⟩ | ⟨e1, _, e2, _, e3⟩
      · exact .inl ⟨e1, e2, e3.trans h.room⟩
      · exact .inr ⟨e1, e2, e3.trans h.room⟩
    · rw [write_off hB hoff hm]
      exact .inr ⟨rfl, h.v, h.room⟩
  simp only [go_sem, Nat.reduceEqDiff, Nat.reduceAdd, Nat.reduceMul, Nat.reduceSub, Nat.reduceLeDiff, Int.reduceBEq, Int.reduceBNe, Int.reduceLT, Int.reduceLE, Int.reduceGT, Int.reduceGE, Int.reduceEq, ↓reduceIte, reduceCtorEq, g13, g2]
  refine wi_call ?_
  simp only [go_sem, Nat.reduceEqDiff, Nat.reduceAdd, Nat.reduceMul, Nat.reduceSub, Nat.reduceLeDiff, Int.reduceBEq, Int.reduceBNe, Int.reduceLT, Int.reduceLE, Int.reduceGT, Int.reduceGE, Int.reduceEq, ↓reduceIte, reduceCtorEq]
  refine logSet_runs wb hkR i2 (fun r hr => by have := hT r hr; omega) (by rw [hRk]; omega) (by have := h.few; omega) (fun S1 D1 W a hne => ?_) fun S1 D1 t1 W a he0 => ?_
  · rw [hRk] at a hne ⊢
    rcases hw with ⟨e1, _⟩ | ⟨e1, e2, e3⟩
    · exact absurd e1 hne
    rw [e1]
    rw [← a] at e2 e3
    simp only [go_sem, Nat.reduceEqDiff, Nat.reduceAdd, Nat.reduceMul, Nat.reduceSub, Nat.reduceLeDiff, Int.reduceBEq, Int.reduceBNe, Int.reduceLT, Int.reduceLE, Int.reduceGT, Int.reduceGE, Int.reduceEq, ↓reduceIte, reduceCtorEq, g11, g4]
    refine wi_call ?_
    simp only [go_sem, Nat.reduceEqDiff, Nat.reduceAdd, Nat.reduceMul, Nat.reduceSub, Nat.reduceLeDiff, Int.reduceBEq, Int.reduceBNe, Int.reduceLT, Int.reduceLE, Int.reduceGT, Int.reduceGE, Int.reduceEq, ↓reduceIte, reduceCtorEq]
    refine restart_ok W.w.d e2 e3 hk fun S2 D2 m hm1 hm2 _ h2 A2 => ?_
    obtain ⟨x, hx, hsc, hle, hmax⟩ := scans_cut (L := F ++ G.take j) m hX
    have hfx := fileB_take_le (F ++ G.take j) x
    simp only [go_sem, Nat.reduceEqDiff, Nat.reduceAdd, Nat.reduceMul, Nat.reduceSub, Nat.reduceLeDiff, Int.reduceBEq, Int.reduceBNe, Int.reduceLT, Int.reduceLE, Int.reduceGT, Int.reduceGE, Int.reduceEq, ↓reduceIte, reduceCtorEq, g11]
    refine wi_call ?_
    simp only [go_sem, Nat.reduceEqDiff, Nat.reduceAdd, Nat.reduceMul, Nat.reduceSub, Nat.reduceLeDiff, Int.reduceBEq, Int.reduceBNe, Int.reduceLT, Int.reduceLE, Int.reduceGT, Int.reduceGE, Int.reduceEq, ↓reduceIte, reduceCtorEq]
    refine open_ok h2 hA hB (by decide) (by rw [List.length_take]; omega) hsc (fun h => take_pre' hm2 h) (by rw [List.length_take]; omega) fun S3 D3 g3 t3 h3 k3 o3 _ _ => ?_
    simp only [go_sem, Nat.reduceEqDiff, Nat.reduceAdd, Nat.reduceMul, Nat.reduceSub, Nat.reduceLeDiff, Int.reduceBEq, Int.reduceBNe, Int.reduceLT, Int.reduceLE, Int.reduceGT, Int.reduceGE, Int.reduceEq, ↓reduceIte, reduceCtorEq]
    refine wc_ite (b := false) (by simp only [go_sem, Nat.reduceEqDiff, Nat.reduceAdd, Nat.reduceMul, Nat.reduceSub, Nat.reduceLeDiff, Int.reduceBEq, Int.reduceBNe, Int.reduceLT, Int.reduceLE, Int.reduceGT, Int.reduceGE, Int.reduceEq, ↓reduceIte, reduceCtorEq] <;> rfl) (fun h => by cases h) (fun _ => ?_)
    simp only [go_sem, Nat.reduceEqDiff, Nat.reduceAdd, Nat.reduceMul, Nat.reduceSub, Nat.reduceLeDiff, Int.reduceBEq, Int.reduceBNe, Int.reduceLT, Int.reduceLE, Int.reduceGT, Int.reduceGE, Int.reduceEq, ↓reduceIte, reduceCtorEq]
    refine wi_call ?_
    simp only [go_sem, Nat.reduceEqDiff, Nat.reduceAdd, Nat.reduceMul, Nat.reduceSub, Nat.reduceLeDiff, Int.reduceBEq, Int.reduceBNe, Int.reduceLT, Int.reduceLE, Int.reduceGT, Int.reduceGE, Int.reduceEq, ↓reduceIte, reduceCtorEq]
    refine all_runs h3.w (fun r hr => by have := shortL_take hX x r hr; omega) (by rw [List.length_take]; omega) fun S4 v4 t4 hv4 k4 => ?_
    simp only [go_sem, Nat.reduceEqDiff, Nat.reduceAdd, Nat.reduceMul, Nat.reduceSub, Nat.reduceLeDiff, Int.reduceBEq, Int.reduceBNe, Int.reduceLT, Int.reduceLE, Int.reduceGT, Int.reduceGE, Int.reduceEq, ↓reduceIte, reduceCtorEq]
    refine wc_ite (b := false) (by simp only [go_sem, Nat.reduceEqDiff, Nat.reduceAdd, Nat.reduceMul, Nat.reduceSub, Nat.reduceLeDiff, Int.reduceBEq, Int.reduceBNe, Int.reduceLT, Int.reduceLE, Int.reduceGT, Int.reduceGE, Int.reduceEq, ↓reduceIte, reduceCtorEq] <;> rfl) (fun h => by cases h) (fun _ => ?_)
    simp only [go_sem, Nat.reduceEqDiff, Nat.reduceAdd, Nat.reduceMul, Nat.reduceSub, Nat.reduceLeDiff, Int.reduceBEq, Int.reduceBNe, Int.reduceLT, Int.reduceLE, Int.reduceGT, Int.reduceGE, Int.reduceEq, ↓reduceIte, reduceCtorEq, g15, g17]
    refine wi_call ?_
    simp only [go_sem, Nat.reduceEqDiff, Nat.reduceAdd, Nat.reduceMul, Nat.reduceSub, Nat.reduceLeDiff, Int.reduceBEq, Int.reduceBNe, Int.reduceLT, Int.reduceLE, Int.reduceGT, Int.reduceGE, Int.reduceEq, ↓reduceIte, reduceCtorEq]
    have hxl : ((F ++ G.take j).take x).length = x := by rw [List.length_take]; omega
    refine beginning_runs hv4 i15 (by rw [hxl]; omega) ?_
    have hFj : (F ++ G.take j) = (F ++ G).take (F.length + j) := by rw [List.take_append, List.take_of_length_le (l := F) (by omega), Nat.add_sub_cancel_left]
    have hsx : sN ≤ x := hmax sN (by rw [List.length_append, List.length_take]; omega) (by
      have : (F ++ G.take j).take sN = (F ++ G).take sN := by rw [hFj, List.take_take, Nat.min_eq_left s1]
      rw [this]; omega)
    have hxle : x ≤ F.length + j := by rw [List.length_append, List.length_take] at hx; omega
    rw [decide_eq_true (by
      rw [hxl]
      refine ⟨by omega, by omega, ?_⟩
      rw [hFj, List.take_take, Nat.min_eq_left hxle])]
    simp only [go_sem, Nat.reduceEqDiff, Nat.reduceAdd, Nat.reduceMul, Nat.reduceSub, Nat.reduceLeDiff, Int.reduceBEq, Int.reduceBNe, Int.reduceLT, Int.reduceLE, Int.reduceGT, Int.reduceGE, Int.reduceEq, ↓reduceIte, reduceCtorEq]
    exact hQ _
  · rw [hRk] at a he0 W
    rcases hw with ⟨e1, e2, e3⟩ | ⟨e1, _⟩
    · rw [← a] at e2 e3
      simp only [go_sem, Nat.reduceEqDiff, Nat.reduceAdd, Nat.reduceMul, Nat.reduceSub, Nat.reduceLeDiff, Int.reduceBEq, Int.reduceBNe, Int.reduceLT, Int.reduceLE, Int.reduceGT, Int.reduceGE, Int.reduceEq, ↓reduceIte, reduceCtorEq, g11, g4]
      refine wi_call ?_
      simp only [go_sem, Nat.reduceEqDiff, Nat.reduceAdd, Nat.reduceMul, Nat.reduceSub, Nat.reduceLeDiff, Int.reduceBEq, Int.reduceBNe, Int.reduceLT, Int.reduceLE, Int.reduceGT, Int.reduceGE, Int.reduceEq, ↓reduceIte, reduceCtorEq]
      refine restart_ok W.w.d e2 e3 hk fun S2 D2 m hm1 hm2 _ h2 A2 => ?_
      have : m = (fileB (F.take (F.length / 2) ++ T)).length := by omega
      subst this
      rw [List.take_length] at h2
      simp only [go_sem, Nat.reduceEqDiff, Nat.reduceAdd, Nat.reduceMul, Nat.reduceSub, Nat.reduceLeDiff, Int.reduceBEq, Int.reduceBNe, Int.reduceLT, Int.reduceLE, Int.reduceGT, Int.reduceGE, Int.reduceEq, ↓reduceIte, reduceCtorEq, g11]
      refine wi_call ?_
      simp only [go_sem, Nat.reduceEqDiff, Nat.reduceAdd, Nat.reduceMul, Nat.reduceSub, Nat.reduceLeDiff, Int.reduceBEq, Int.reduceBNe, Int.reduceLT, Int.reduceLE, Int.reduceGT, Int.reduceGE, Int.reduceEq, ↓reduceIte, reduceCtorEq]
      refine open_ok h2 hA hB (by decide) (Nat.le_refl _) (scans_file hm) (fun _ => rfl) (by omega) fun S3 D3 g3 t3 h3 k3 o3 _ _ => ?_
      simp only [go_sem, Nat.reduceEqDiff, Nat.reduceAdd, Nat.reduceMul, Nat.reduceSub, Nat.reduceLeDiff, Int.reduceBEq, Int.reduceBNe, Int.reduceLT, Int.reduceLE, Int.reduceGT, Int.reduceGE, Int.reduceEq, ↓reduceIte, reduceCtorEq]
      refine wc_ite (b := false) (by simp only [go_sem, Nat.reduceEqDiff, Nat.reduceAdd, Nat.reduceMul, Nat.reduceSub, Nat.reduceLeDiff, Int.reduceBEq, Int.reduceBNe, Int.reduceLT, Int.reduceLE, Int.reduceGT, Int.reduceGE, Int.reduceEq, ↓reduceIte, reduceCtorEq] <;> rfl) (fun h => by cases h) (fun _ => ?_)
      simp only [go_sem, Nat.reduceEqDiff, Nat.reduceAdd, Nat.reduceMul, Nat.reduceSub, Nat.reduceLeDiff, Int.reduceBEq, Int.reduceBNe, Int.reduceLT, Int.reduceLE, Int.reduceGT, Int.reduceGE, Int.reduceEq, ↓reduceIte, reduceCtorEq]
      refine wi_call ?_
      simp only [go_sem, Nat.reduceEqDiff, Nat.reduceAdd, Nat.reduceMul, Nat.reduceSub, Nat.reduceLeDiff, Int.reduceBEq, Int.reduceBNe, Int.reduceLT, Int.reduceLE, Int.reduceGT, Int.reduceGE, Int.reduceEq, ↓reduceIte, reduceCtorEq]
      refine all_runs h3.w (fun r hr => by have := hm r hr; omega) (by omega) fun S4 v4 t4 hv4 k4 => ?_
      simp only [go_sem, Nat.reduceEqDiff, Nat.reduceAdd, Nat.reduceMul, Nat.reduceSub, Nat.reduceLeDiff, Int.reduceBEq, Int.reduceBNe, Int.reduceLT, Int.reduceLE, Int.reduceGT, Int.reduceGE, Int.reduceEq, ↓reduceIte, reduceCtorEq]
      refine wc_ite (b := true) (by simp only [go_sem, Nat.reduceEqDiff, Nat.reduceAdd, Nat.reduceMul, Nat.reduceSub, Nat.reduceLeDiff, Int.reduceBEq, Int.reduceBNe, Int.reduceLT, Int.reduceLE, Int.reduceGT, Int.reduceGE, Int.reduceEq, ↓reduceIte, reduceCtorEq] <;> rfl) (fun _ => ?_) (fun h => by cases h)
      simp only [go_sem, Nat.reduceEqDiff, Nat.reduceAdd, Nat.reduceMul, Nat.reduceSub, Nat.reduceLeDiff, Int.reduceBEq, Int.reduceBNe, Int.reduceLT, Int.reduceLE, Int.reduceGT, Int.reduceGE, Int.reduceEq, ↓reduceIte, reduceCtorEq]
      refine wi_call ?_
      simp only [go_sem, Nat.reduceEqDiff, Nat.reduceAdd, Nat.reduceMul, Nat.reduceSub, Nat.reduceLeDiff, Int.reduceBEq, Int.reduceBNe, Int.reduceLT, Int.reduceLE, Int.reduceGT, Int.reduceGE, Int.reduceEq, ↓reduceIte, reduceCtorEq]
      refine same_runs hv4 hvb (by omega) ?_
      rw [decide_eq_true rfl]
      simp only [go_sem, Nat.reduceEqDiff, Nat.reduceAdd, Nat.reduceMul, Nat.reduceSub, Nat.reduceLeDiff, Int.reduceBEq, Int.reduceBNe, Int.reduceLT, Int.reduceLE, Int.reduceGT, Int.reduceGE, Int.reduceEq, ↓reduceIte, reduceCtorEq]
      exact hQ _
    · rw [he0] at e1; cases e1

theorem crash_sync {w0 : World} {fr : Fr} {S : St} {Q : AEnd → St → Prop} {i g j : Nat} {D : Dk} {t t0 t2 t15 kt : Tok} {R F G T : List (List UInt8)} {v0 v2 v15 : V} {keep : List Int} (h : Cr S i g D t R F (G.take j) (fileB F).length) (hoff : D.abs.off = false → j = G.length ∧ R = F ++ G)
    (hF : shortL F) (hG : shortL G) (hT : shortL T) (hn : F.length + G.length + T.length ≤ 30) (i0 : IsSlice BytesR 1 v0 F t0) (i2 : IsSlice BytesR 1 v2 T t2) (i15 : IsSlice BytesR 1 v15 (F ++ G) t15) (hk : kt = .nil → keep = [])
    (g0 : fr 0 = v0) (g2 : fr 2 = v2) (g4 : fr 4 = intsV keep kt) (g11 : fr 11 = .ptr (some (i, 0))) (g13 : fr 13 = .ptr (some (g, 0))) (g15 : fr 15 = v15) (g17 : fr 17 = .int .i64 F.length)
    (hj : j ≤ G.length) (hQ : ∀ S', Q (.ret (.bool true)) S') :
    wCode (RSim Try.prog w0) s_l04_WalCrashes_0 fr S (resQ [.tmp 10] Q) := by
  have hA : nameOk logN = true := by decide
  have hB : nameOk (newN logN) = true := by decide
  obtain ⟨cs, hv15⟩ := i15.len
  have hFGl : (F ++ G).length = F.length + G.length := List.length_append
  have hFt : (F ++ G).take F.length = F := List.take_left
  have hle : (fileB F).length ≤ (fileB (F ++ G.take j)).length := by rw [fileB_append, List.length_append]; omega
  -- what the Sync does
  have hs : ((D.abs.syncL logN R).1 = 0 ∧ j = G.length ∧ WD (D.abs.syncL logN R).2 logN (fileB (F ++ G.take j)) (fileB (F ++ G.take j)).length ∧ (D.abs.syncL logN R).2.clean logN ∧ (D.abs.syncL logN R).2.room = 8388608) ∨
      ((D.abs.syncL logN R).1 = 10 ∧ WD (D.abs.syncL logN R).2 logN (fileB (F ++ G.take j)) (fileB F).length ∧ (D.abs.syncL logN R).2.clean logN ∧ (D.abs.syncL logN R).2.room = 8388608) := by
    unfold DS.syncL
    cases ho : D.abs.off
    · obtain ⟨hj', hR⟩ := hoff ho
      have hGj : G.take j = G := by rw [hj', List.take_length]
      rcases sync_eff h.v hA ho with ⟨e1, e2, e3, e4⟩ | ⟨_, e1, e2, e3, _, e4⟩ | ⟨_, e1, e2, e3, _, _, e4⟩
      · have hnil := fileB_nil e3
        have hRn : R = [] := by rw [hR, ← hGj]; exact hnil
        rw [e1, e2, if_pos ⟨rfl, hRn⟩]
        refine .inl ⟨rfl, hj', ?_, h.c, h.room⟩
        have := h.v
        rw [e4] at this
        rw [e3] at this ⊢; exact this
      · rw [e1, if_neg (by rintro ⟨h, _⟩; cases h)]
        exact .inr ⟨rfl, e2, e3 h.c, e4.trans h.room⟩
      · rw [e1, if_neg (by rintro ⟨h, _⟩; cases h)]
        exact .inl ⟨rfl, hj', e2, e3 h.c, e4.trans h.room⟩
    · have : D.abs.sync logN = (10, D.abs) := change_off _ hA ho
      rw [this, if_neg (by rintro ⟨h, _⟩; cases h)]
      exact .inr ⟨rfl, h.v, h.c, h.room⟩
  simp only [s_l04_WalCrashes_0, go_sem, Nat.reduceEqDiff, Nat.reduceAdd, Nat.reduceMul, Nat.reduceSub, Nat.reduceLeDiff, Int.reduceBEq, Int.reduceBNe, Int.reduceLT, Int.reduceLE, Int.reduceGT, Int.reduceGE, Int.reduceEq, ↓reduceIte, reduceCtorEq, g0, g2, g4, g11, g13, g15, g17]
  refine wi_call ?_
  simp only [go_sem, Nat.reduceEqDiff, Nat.reduceAdd, Nat.reduceMul, Nat.reduceSub, Nat.reduceLeDiff, Int.reduceBEq, Int.reduceBNe, Int.reduceLT, Int.reduceLE, Int.reduceGT, Int.reduceGE, Int.reduceEq, ↓reduceIte, reduceCtorEq]
  refine logSync_runs h.w fun S1 D1 W a => ?_
  rcases hs with ⟨e1, hj', e2, e3, e4⟩ | ⟨e1, e2, e3, e4⟩
  · rw [e1]
    rw [← a] at e2 e3 e4
    simp only [go_sem, Nat.reduceEqDiff, Nat.reduceAdd, Nat.reduceMul, Nat.reduceSub, Nat.reduceLeDiff, Int.reduceBEq, Int.reduceBNe, Int.reduceLT, Int.reduceLE, Int.reduceGT, Int.reduceGE, Int.reduceEq, ↓reduceIte, reduceCtorEq]
    refine wc_ite (b := true) (by simp only [go_sem, Nat.reduceEqDiff, Nat.reduceAdd, Nat.reduceMul, Nat.reduceSub, Nat.reduceLeDiff, Int.reduceBEq, Int.reduceBNe, Int.reduceLT, Int.reduceLE, Int.reduceGT, Int.reduceGE, Int.reduceEq, ↓reduceIte, reduceCtorEq] <;> rfl) (fun _ => ?_) (fun h => by cases h)
    simp only [go_sem, Nat.reduceEqDiff, Nat.reduceAdd, Nat.reduceMul, Nat.reduceSub, Nat.reduceLeDiff, Int.reduceBEq, Int.reduceBNe, Int.reduceLT, Int.reduceLE, Int.reduceGT, Int.reduceGE, Int.reduceEq, ↓reduceIte, reduceCtorEq, g15, hv15]
    refine crash_rest (sN := F.length + G.length) (q := (fileB (F ++ G.take j)).length) ⟨W.w, e2, e3, e4, h.pre, h.short, h.few⟩ hF hG hT hn i0 i2 (hv15 ▸ i15) hk (by simp only [go_sem, Nat.reduceEqDiff, Nat.reduceAdd, Nat.reduceMul, Nat.reduceSub, Nat.reduceLeDiff, Int.reduceBEq, Int.reduceBNe, Int.reduceLT, Int.reduceLE, Int.reduceGT, Int.reduceGE, Int.reduceEq, ↓reduceIte, reduceCtorEq, g0]) (by simp only [go_sem, Nat.reduceEqDiff, Nat.reduceAdd, Nat.reduceMul, Nat.reduceSub, Nat.reduceLeDiff, Int.reduceBEq, Int.reduceBNe, Int.reduceLT, Int.reduceLE, Int.reduceGT, Int.reduceGE, Int.reduceEq, ↓reduceIte, reduceCtorEq, g2]) (by simp only [go_sem, Nat.reduceEqDiff, Nat.reduceAdd, Nat.reduceMul, Nat.reduceSub, Nat.reduceLeDiff, Int.reduceBEq, Int.reduceBNe, Int.reduceLT, Int.reduceLE, Int.reduceGT, Int.reduceGE, Int.reduceEq, ↓reduceIte, reduceCtorEq, g4]) (by simp only [go_sem, Nat.reduceEqDiff, Nat.reduceAdd, Nat.reduceMul, Nat.reduceSub, Nat.reduceLeDiff, Int.reduceBEq, Int.reduceBNe, Int.reduceLT, Int.reduceLE, Int.reduceGT, Int.reduceGE, Int.reduceEq, ↓reduceIte, reduceCtorEq, g11]) (by simp only [go_sem, Nat.reduceEqDiff, Nat.reduceAdd, Nat.reduceMul, Nat.reduceSub, Nat.reduceLeDiff, Int.reduceBEq, Int.reduceBNe, Int.reduceLT, Int.reduceLE, Int.reduceGT, Int.reduceGE, Int.reduceEq, ↓reduceIte, reduceCtorEq, g13]) (by simp only [go_sem, Nat.reduceEqDiff, Nat.reduceAdd, Nat.reduceMul, Nat.reduceSub, Nat.reduceLeDiff, Int.reduceBEq, Int.reduceBNe, Int.reduceLT, Int.reduceLE, Int.reduceGT, Int.reduceGE, Int.reduceEq, ↓reduceIte, reduceCtorEq, g15, hv15]) (by simp only [go_sem, Nat.reduceEqDiff, Nat.reduceAdd, Nat.reduceMul, Nat.reduceSub, Nat.reduceLeDiff, Int.reduceBEq, Int.reduceBNe, Int.reduceLT, Int.reduceLE, Int.reduceGT, Int.reduceGE, Int.reduceEq, ↓reduceIte, reduceCtorEq, hFGl]) hj (by omega) ?_ (Nat.le_refl _) hQ
    rw [hj', List.take_length, ← hFGl, List.take_length]
    exact Nat.le_refl _
  · rw [e1]
    rw [← a] at e2 e3 e4
    simp only [go_sem, Nat.reduceEqDiff, Nat.reduceAdd, Nat.reduceMul, Nat.reduceSub, Nat.reduceLeDiff, Int.reduceBEq, Int.reduceBNe, Int.reduceLT, Int.reduceLE, Int.reduceGT, Int.reduceGE, Int.reduceEq, ↓reduceIte, reduceCtorEq]
    refine wc_ite (b := false) (by simp only [go_sem, Nat.reduceEqDiff, Nat.reduceAdd, Nat.reduceMul, Nat.reduceSub, Nat.reduceLeDiff, Int.reduceBEq, Int.reduceBNe, Int.reduceLT, Int.reduceLE, Int.reduceGT, Int.reduceGE, Int.reduceEq, ↓reduceIte, reduceCtorEq] <;> rfl) (fun h => by cases h) (fun _ => ?_)
    simp only [wc_skip, seqQ_normal]
    exact crash_rest (sN := F.length) (q := (fileB F).length) ⟨W.w, e2, e3, e4, h.pre, h.short, h.few⟩ hF hG hT hn i0 i2 i15 hk (by simp only [go_sem, Nat.reduceEqDiff, Nat.reduceAdd, Nat.reduceMul, Nat.reduceSub, Nat.reduceLeDiff, Int.reduceBEq, Int.reduceBNe, Int.reduceLT, Int.reduceLE, Int.reduceGT, Int.reduceGE, Int.reduceEq, ↓reduceIte, reduceCtorEq, g0]) (by simp only [go_sem, Nat.reduceEqDiff, Nat.reduceAdd, Nat.reduceMul, Nat.reduceSub, Nat.reduceLeDiff, Int.reduceBEq, Int.reduceBNe, Int.reduceLT, Int.reduceLE, Int.reduceGT, Int.reduceGE, Int.reduceEq, ↓reduceIte, reduceCtorEq, g2]) (by simp only [go_sem, Nat.reduceEqDiff, Nat.reduceAdd, Nat.reduceMul, Nat.reduceSub, Nat.reduceLeDiff, Int.reduceBEq, Int.reduceBNe, Int.reduceLT, Int.reduceLE, Int.reduceGT, Int.reduceGE, Int.reduceEq, ↓reduceIte, reduceCtorEq, g4]) (by simp only [go_sem, Nat.reduceEqDiff, Nat.reduceAdd, Nat.reduceMul, Nat.reduceSub, Nat.reduceLeDiff, Int.reduceBEq, Int.reduceBNe, Int.reduceLT, Int.reduceLE, Int.reduceGT, Int.reduceGE, Int.reduceEq, ↓reduceIte, reduceCtorEq, g11]) (by simp only [go_sem, Nat.reduceEqDiff, Nat.reduceAdd, Nat.reduceMul, Nat.reduceSub, Nat.reduceLeDiff, Int.reduceBEq, Int.reduceBNe, Int.reduceLT, Int.reduceLE, Int.reduceGT, Int.reduceGE, Int.reduceEq, ↓reduceIte, reduceCtorEq, g13]) (by simp only [go_sem, Nat.reduceEqDiff, Nat.reduceAdd, Nat.reduceMul, Nat.reduceSub, Nat.reduceLeDiff, Int.reduceBEq, Int.reduceBNe, Int.reduceLT, Int.reduceLE, Int.reduceGT, Int.reduceGE, Int.reduceEq, ↓reduceIte, reduceCtorEq, g15]) (by simp only [go_sem, Nat.reduceEqDiff, Nat.reduceAdd, Nat.reduceMul, Nat.reduceSub, Nat.reduceLeDiff, Int.reduceBEq, Int.reduceBNe, Int.reduceLT, Int.reduceLE, Int.reduceGT, Int.reduceGE, Int.reduceEq, ↓reduceIte, reduceCtorEq, g17]) hj (by omega) (by rw [hFt]; exact Nat.le_refl _) hle hQ

theorem crash_loop {w0 : World} {fr : Fr} {S : St} {Q : AEnd → St → Prop} {i g : Nat} {D : Dk} {t t0 t1 t2 t15 kt : Tok} {F G T : List (List UInt8)} {v0 v1 v2 v15 : V} {keep : List Int} (h : Cr S i g D t F F [] (fileB F).length)
    (hF : shortL F) (hG : shortL G) (hT : shortL T) (hn : F.length + G.length + T.length ≤ 30) (i0 : IsSlice BytesR 1 v0 F t0) (i1 : IsSlice BytesR 1 v1 G t1) (i2 : IsSlice BytesR 1 v2 T t2) (i15 : IsSlice BytesR 1 v15 F t15) (ht15 : TokOk S t15) (hno : ∀ k, t15 = .at k → ¬ ownW i g D t k) (hk : kt = .nil → keep = [])
    (g0 : fr 0 = v0) (g1 : fr 1 = v1) (g2 : fr 2 = v2) (g4 : fr 4 = intsV keep kt) (g11 : fr 11 = .ptr (some (i, 0))) (g13 : fr 13 = .ptr (some (g, 0))) (g15 : fr 15 = v15) (g17 : fr 17 = .int .i64 F.length) (g18 : fr 18 = .int .i64 0)
    (hoff : D.abs.off = false) (hQ : ∀ S', Q (.ret (.bool true)) S') :
    wCode (RSim Try.prog w0) (.loop l_l04_WalCrashes_1) fr S (blkQ 2 (seqQ (RSim Try.prog w0) s_l04_WalCrashes_0 (resQ [.tmp 10] Q))) := by
  have hA : nameOk logN = true := by decide
  obtain ⟨cs, rfl⟩ := i1.len
  generalize hkv : intsV keep kt = kv at g4
  refine loop_rule RSim.le (k := G.length) (fun m fr S3 => ∃ (j j' : Nat) (D : Dk) (t : Tok) (R : List (List UInt8)) (v' : V) (t' : Tok), m = G.length - j ∧ j ≤ G.length ∧ j' ≤ j ∧ fr 0 = v0 ∧ fr 1 = .sl cs G.length 1 t1 ∧ fr 2 = v2 ∧ fr 4 = kv ∧ fr 11 = .ptr (some (i, 0)) ∧ fr 13 = .ptr (some (g, 0)) ∧ fr 15 = v' ∧ fr 17 = .int .i64 F.length ∧ fr 18 = .int .i64 j ∧
      Cr S3 i g D t R F (G.take j') (fileB F).length ∧ (D.abs.off = false → j' = j ∧ R = F ++ G.take j) ∧ R.length ≤ F.length + j ∧ IsSlice BytesR 1 v' (F ++ G.take j) t' ∧ TokOk S3 t' ∧ (∀ k, t' = .at k → ¬ ownW i g D t k)) ?_
    ⟨0, 0, D, t, F, v15, t15, rfl, by omega, by omega, g0, g1, g2, g4, g11, g13, g15, g17, g18, by simpa using h, fun _ => ⟨rfl, by simp⟩, by omega, by simpa using i15, ht15, hno⟩
  rintro m fr S3 ⟨j, j', D, t, R, v', t', hm, hj, hj', f0, f1, f2, f4, f11, f13, f15, f17, f18, h3, hof, hRl, hv', ht', hno'⟩
  simp only [l_l04_WalCrashes_1, go_sem, Nat.reduceEqDiff, Nat.reduceAdd, Nat.reduceMul, Nat.reduceSub, Nat.reduceLeDiff, Int.reduceBEq, Int.reduceBNe, Int.reduceLT, Int.reduceLE, Int.reduceGT, Int.reduceGE, Int.reduceEq, ↓reduceIte, reduceCtorEq, f0, f1, f2, f4, f11, f13, f15, f17, f18]
  refine wc_ite (b := decide ((j : Int) < (G.length : Int))) (by simp only [go_sem, Nat.reduceEqDiff, Nat.reduceAdd, Nat.reduceMul, Nat.reduceSub, Nat.reduceLeDiff, Int.reduceBEq, Int.reduceBNe, Int.reduceLT, Int.reduceLE, Int.reduceGT, Int.reduceGE, Int.reduceEq, ↓reduceIte, reduceCtorEq]) (fun hc => ?_) (fun hc => ?_)
  · have hlt : j < G.length := by have := of_decide_eq_true hc; omega
    obtain ⟨r, hr⟩ : ∃ r, G[j]? = some r := ⟨G[j], List.getElem?_eq_getElem hlt⟩
    obtain ⟨v, rest, hd, hvr, htn, hjn⟩ := i1.get hr
    have hrs := hG r (List.mem_of_getElem? hr)
    have hrf := frameB_le hrs
    have ho := hvr.one
    have hc2 := hvr.cells
    simp only [go_sem, Nat.reduceEqDiff, Nat.reduceAdd, Nat.reduceMul, Nat.reduceSub, Nat.reduceLeDiff, Int.reduceBEq, Int.reduceBNe, Int.reduceLT, Int.reduceLE, Int.reduceGT, Int.reduceGE, Int.reduceEq, ↓reduceIte, reduceCtorEq, f1, f15, f18, hd, htn, hjn, List.head?_cons, ho, hc2]
    have hXl : (F ++ G.take j).length ≤ 30 := by rw [List.length_append, List.length_take]; omega
    refine wi_appendR (R := BytesR) (v := v') (l := F ++ G.take j) (y := r) (c := [v]) (t := t') (by simp only [go_sem, Nat.reduceEqDiff, Nat.reduceAdd, Nat.reduceMul, Nat.reduceSub, Nat.reduceLeDiff, Int.reduceBEq, Int.reduceBNe, Int.reduceLT, Int.reduceLE, Int.reduceGT, Int.reduceGE, Int.reduceEq, ↓reduceIte, reduceCtorEq, f15]) hv' (by simp only [go_sem, Nat.reduceEqDiff, Nat.reduceAdd, Nat.reduceMul, Nat.reduceSub, Nat.reduceLeDiff, Int.reduceBEq, Int.reduceBNe, Int.reduceLT, Int.reduceLE, Int.reduceGT, Int.reduceGE, Int.reduceEq, ↓reduceIte, reduceCtorEq]; exact elems1 _ _ _ (by simp)) rfl ⟨_, rfl, hvr⟩ (by omega) ht' fun t7 S7 v7 hs7 k7 ht7 hn7 hz7 => ?_
    have w7 := h3.w.keep k7 fun k hk hk' => hno' k hk' hk
    have hno7 : ∀ k, t7 = .at k → ¬ ownW i g D t k := fun k hk ho => by have := h3.w.own_lt ho; have := hn7 k hk; omega
    rw [List.append_assoc, ← take_snoc hr] at hs7
    have w1 : IntKind.i64.wrap ((j : Int) + 1) = ((j + 1 : Nat) : Int) := by rw [w64 (by omega) (by omega)]; omega
    simp only [go_sem, Nat.reduceEqDiff, Nat.reduceAdd, Nat.reduceMul, Nat.reduceSub, Nat.reduceLeDiff, Int.reduceBEq, Int.reduceBNe, Int.reduceLT, Int.reduceLE, Int.reduceGT, Int.reduceGE, Int.reduceEq, ↓reduceIte, reduceCtorEq, f1, f13, f18, hd, htn, hjn, List.head?_cons]
    refine wi_call ?_
    simp only [go_sem, Nat.reduceEqDiff, Nat.reduceAdd, Nat.reduceMul, Nat.reduceSub, Nat.reduceLeDiff, Int.reduceBEq, Int.reduceBNe, Int.reduceLT, Int.reduceLE, Int.reduceGT, Int.reduceGE, Int.reduceEq, ↓reduceIte, reduceCtorEq]
    have hX : shortL (F ++ G.take j') := shortL_app hF (shortL_take hG j')
    have lp := fileB_few (b := 65535) (by decide) hX
    have lpl : (F ++ G.take j').length ≤ 30 := by rw [List.length_append, List.length_take]; omega
    have lp' : (fileB (F ++ G.take j')).length ≤ 1966320 := Nat.le_trans lp (by have := Nat.mul_le_mul_right (65535 + 9) lpl; omega)
    have own7 : ∀ {S8 D8 t8 L8}, WAfter S7 i g D t S8 D8 t8 logN L8 → (∀ k, t7 = .at k → ¬ ownW i g D8 t8 k) ∧ TokOk S8 t7 := fun W => ⟨fun k hk ho => (W.o k ho).elim (hno7 k hk) fun h => by rw [hk] at ht7; have := ht7.1; omega, ht7.keep W.k hno7⟩
    refine logAppend_runs w7 hvr (by omega) (fun h => by omega) (fun S8 D8 _ W a hne => ?_) fun S8 D8 t8 _ W a he0 => ?_
    · obtain ⟨n8, o8⟩ := own7 W
      cases hoD : D.abs.off
      · obtain ⟨hjj, hRR⟩ := hof hoD
        subst hjj
        obtain ⟨e1, e2, e3, e4, e5, e6⟩ := grow_eff (f := frameB r) h3.v w7.d.good h3.c hA hoD (by rw [h3.room]; omega)
        rw [← a] at e2 e3 e4 e5 e6
        have hb : D8.abs.off = true := by
          rw [e4]
          cases hb : D.abs.begun.off
          · rw [if_neg (by rw [hb]; decide)] at e1; exact absurd e1 hne
          · rfl
        rw [← fileB_snoc, List.append_assoc, ← take_snoc hr] at e2
        generalize (D.abs.grow logN (frameB r) false).1 = e
        simp only [go_sem, Nat.reduceEqDiff, Nat.reduceAdd, Nat.reduceMul, Nat.reduceSub, Nat.reduceLeDiff, Int.reduceBEq, Int.reduceBNe, Int.reduceLT, Int.reduceLE, Int.reduceGT, Int.reduceGE, Int.reduceEq, ↓reduceIte, reduceCtorEq, f18, w1]
        exact ⟨G.length - (j' + 1), by omega, j' + 1, j' + 1, D8, t, R, v7, t7, rfl, by omega, by omega, by simp only [go_sem, Nat.reduceEqDiff, Nat.reduceAdd, Nat.reduceMul, Nat.reduceSub, Nat.reduceLeDiff, Int.reduceBEq, Int.reduceBNe, Int.reduceLT, Int.reduceLE, Int.reduceGT, Int.reduceGE, Int.reduceEq, ↓reduceIte, reduceCtorEq, f0], by simp only [go_sem, Nat.reduceEqDiff, Nat.reduceAdd, Nat.reduceMul, Nat.reduceSub, Nat.reduceLeDiff, Int.reduceBEq, Int.reduceBNe, Int.reduceLT, Int.reduceLE, Int.reduceGT, Int.reduceGE, Int.reduceEq, ↓reduceIte, reduceCtorEq, f1], by simp only [go_sem, Nat.reduceEqDiff, Nat.reduceAdd, Nat.reduceMul, Nat.reduceSub, Nat.reduceLeDiff, Int.reduceBEq, Int.reduceBNe, Int.reduceLT, Int.reduceLE, Int.reduceGT, Int.reduceGE, Int.reduceEq, ↓reduceIte, reduceCtorEq, f2], by simp only [go_sem, Nat.reduceEqDiff, Nat.reduceAdd, Nat.reduceMul, Nat.reduceSub, Nat.reduceLeDiff, Int.reduceBEq, Int.reduceBNe, Int.reduceLT, Int.reduceLE, Int.reduceGT, Int.reduceGE, Int.reduceEq, ↓reduceIte, reduceCtorEq, f4], by simp only [go_sem, Nat.reduceEqDiff, Nat.reduceAdd, Nat.reduceMul, Nat.reduceSub, Nat.reduceLeDiff, Int.reduceBEq, Int.reduceBNe, Int.reduceLT, Int.reduceLE, Int.reduceGT, Int.reduceGE, Int.reduceEq, ↓reduceIte, reduceCtorEq, f11], by simp only [go_sem, Nat.reduceEqDiff, Nat.reduceAdd, Nat.reduceMul, Nat.reduceSub, Nat.reduceLeDiff, Int.reduceBEq, Int.reduceBNe, Int.reduceLT, Int.reduceLE, Int.reduceGT, Int.reduceGE, Int.reduceEq, ↓reduceIte, reduceCtorEq, f13], by simp only [go_sem, Nat.reduceEqDiff, Nat.reduceAdd, Nat.reduceMul, Nat.reduceSub, Nat.reduceLeDiff, Int.reduceBEq, Int.reduceBNe, Int.reduceLT, Int.reduceLE, Int.reduceGT, Int.reduceGE, Int.reduceEq, ↓reduceIte, reduceCtorEq], by simp only [go_sem, Nat.reduceEqDiff, Nat.reduceAdd, Nat.reduceMul, Nat.reduceSub, Nat.reduceLeDiff, Int.reduceBEq, Int.reduceBNe, Int.reduceLT, Int.reduceLE, Int.reduceGT, Int.reduceGE, Int.reduceEq, ↓reduceIte, reduceCtorEq, f17], by simp only [go_sem, Nat.reduceEqDiff, Nat.reduceAdd, Nat.reduceMul, Nat.reduceSub, Nat.reduceLeDiff, Int.reduceBEq, Int.reduceBNe, Int.reduceLT, Int.reduceLE, Int.reduceGT, Int.reduceGE, Int.reduceEq, ↓reduceIte, reduceCtorEq], ⟨W.w, e2, e3, e6.trans h3.room, h3.pre, h3.short, h3.few⟩, fun h => (by rw [hb] at h; cases h), by omega, hs7, o8, n8⟩
      · have hg : D.abs.grow logN (frameB r) false = (10, D.abs) := grow_off hA hoD
        rw [hg] at a ⊢
        have a : D8.abs = D.abs := a
        simp only [go_sem, Nat.reduceEqDiff, Nat.reduceAdd, Nat.reduceMul, Nat.reduceSub, Nat.reduceLeDiff, Int.reduceBEq, Int.reduceBNe, Int.reduceLT, Int.reduceLE, Int.reduceGT, Int.reduceGE, Int.reduceEq, ↓reduceIte, reduceCtorEq, f18, w1]
        exact ⟨G.length - (j + 1), by omega, j + 1, j', D8, t, R, v7, t7, rfl, by omega, by omega, by simp only [go_sem, Nat.reduceEqDiff, Nat.reduceAdd, Nat.reduceMul, Nat.reduceSub, Nat.reduceLeDiff, Int.reduceBEq, Int.reduceBNe, Int.reduceLT, Int.reduceLE, Int.reduceGT, Int.reduceGE, Int.reduceEq, ↓reduceIte, reduceCtorEq, f0], by simp only [go_sem, Nat.reduceEqDiff, Nat.reduceAdd, Nat.reduceMul, Nat.reduceSub, Nat.reduceLeDiff, Int.reduceBEq, Int.reduceBNe, Int.reduceLT, Int.reduceLE, Int.reduceGT, Int.reduceGE, Int.reduceEq, ↓reduceIte, reduceCtorEq, f1], by simp only [go_sem, Nat.reduceEqDiff, Nat.reduceAdd, Nat.reduceMul, Nat.reduceSub, Nat.reduceLeDiff, Int.reduceBEq, Int.reduceBNe, Int.reduceLT, Int.reduceLE, Int.reduceGT, Int.reduceGE, Int.reduceEq, ↓reduceIte, reduceCtorEq, f2], by simp only [go_sem, Nat.reduceEqDiff, Nat.reduceAdd, Nat.reduceMul, Nat.reduceSub, Nat.reduceLeDiff, Int.reduceBEq, Int.reduceBNe, Int.reduceLT, Int.reduceLE, Int.reduceGT, Int.reduceGE, Int.reduceEq, ↓reduceIte, reduceCtorEq, f4], by simp only [go_sem, Nat.reduceEqDiff, Nat.reduceAdd, Nat.reduceMul, Nat.reduceSub, Nat.reduceLeDiff, Int.reduceBEq, Int.reduceBNe, Int.reduceLT, Int.reduceLE, Int.reduceGT, Int.reduceGE, Int.reduceEq, ↓reduceIte, reduceCtorEq, f11], by simp only [go_sem, Nat.reduceEqDiff, Nat.reduceAdd, Nat.reduceMul, Nat.reduceSub, Nat.reduceLeDiff, Int.reduceBEq, Int.reduceBNe, Int.reduceLT, Int.reduceLE, Int.reduceGT, Int.reduceGE, Int.reduceEq, ↓reduceIte, reduceCtorEq, f13], by simp only [go_sem, Nat.reduceEqDiff, Nat.reduceAdd, Nat.reduceMul, Nat.reduceSub, Nat.reduceLeDiff, Int.reduceBEq, Int.reduceBNe, Int.reduceLT, Int.reduceLE, Int.reduceGT, Int.reduceGE, Int.reduceEq, ↓reduceIte, reduceCtorEq], by simp only [go_sem, Nat.reduceEqDiff, Nat.reduceAdd, Nat.reduceMul, Nat.reduceSub, Nat.reduceLeDiff, Int.reduceBEq, Int.reduceBNe, Int.reduceLT, Int.reduceLE, Int.reduceGT, Int.reduceGE, Int.reduceEq, ↓reduceIte, reduceCtorEq, f17], by simp only [go_sem, Nat.reduceEqDiff, Nat.reduceAdd, Nat.reduceMul, Nat.reduceSub, Nat.reduceLeDiff, Int.reduceBEq, Int.reduceBNe, Int.reduceLT, Int.reduceLE, Int.reduceGT, Int.reduceGE, Int.reduceEq, ↓reduceIte, reduceCtorEq], ⟨W.w, by rw [a]; exact h3.v, by rw [a]; exact h3.c, by rw [a]; exact h3.room, h3.pre, h3.short, h3.few⟩, fun h => (by rw [a, hoD] at h; cases h), by omega, hs7, o8, n8⟩
    · obtain ⟨n8, o8⟩ := own7 W
      have hoD : D.abs.off = false := by
        cases hoD : D.abs.off
        · rfl
        · have hg : D.abs.grow logN (frameB r) false = (10, D.abs) := grow_off hA hoD
          rw [hg] at he0; cases he0
      obtain ⟨hjj, hRR⟩ := hof hoD
      subst hjj
      obtain ⟨e1, e2, e3, e4, e5, e6⟩ := grow_eff (f := frameB r) h3.v w7.d.good h3.c hA hoD (by rw [h3.room]; omega)
      rw [← a] at e2 e3 e4 e5 e6
      rw [← fileB_snoc, List.append_assoc, ← take_snoc hr] at e2
      obtain ⟨Y, hY⟩ := h3.pre
      simp only [go_sem, Nat.reduceEqDiff, Nat.reduceAdd, Nat.reduceMul, Nat.reduceSub, Nat.reduceLeDiff, Int.reduceBEq, Int.reduceBNe, Int.reduceLT, Int.reduceLE, Int.reduceGT, Int.reduceGE, Int.reduceEq, ↓reduceIte, reduceCtorEq, f18, w1]
      exact ⟨G.length - (j' + 1), by omega, j' + 1, j' + 1, D8, t8, R ++ [r], v7, t7, rfl, by omega, by omega, by simp only [go_sem, Nat.reduceEqDiff, Nat.reduceAdd, Nat.reduceMul, Nat.reduceSub, Nat.reduceLeDiff, Int.reduceBEq, Int.reduceBNe, Int.reduceLT, Int.reduceLE, Int.reduceGT, Int.reduceGE, Int.reduceEq, ↓reduceIte, reduceCtorEq, f0], by simp only [go_sem, Nat.reduceEqDiff, Nat.reduceAdd, Nat.reduceMul, Nat.reduceSub, Nat.reduceLeDiff, Int.reduceBEq, Int.reduceBNe, Int.reduceLT, Int.reduceLE, Int.reduceGT, Int.reduceGE, Int.reduceEq, ↓reduceIte, reduceCtorEq, f1], by simp only [go_sem, Nat.reduceEqDiff, Nat.reduceAdd, Nat.reduceMul, Nat.reduceSub, Nat.reduceLeDiff, Int.reduceBEq, Int.reduceBNe, Int.reduceLT, Int.reduceLE, Int.reduceGT, Int.reduceGE, Int.reduceEq, ↓reduceIte, reduceCtorEq, f2], by simp only [go_sem, Nat.reduceEqDiff, Nat.reduceAdd, Nat.reduceMul, Nat.reduceSub, Nat.reduceLeDiff, Int.reduceBEq, Int.reduceBNe, Int.reduceLT, Int.reduceLE, Int.reduceGT, Int.reduceGE, Int.reduceEq, ↓reduceIte, reduceCtorEq, f4], by simp only [go_sem, Nat.reduceEqDiff, Nat.reduceAdd, Nat.reduceMul, Nat.reduceSub, Nat.reduceLeDiff, Int.reduceBEq, Int.reduceBNe, Int.reduceLT, Int.reduceLE, Int.reduceGT, Int.reduceGE, Int.reduceEq, ↓reduceIte, reduceCtorEq, f11], by simp only [go_sem, Nat.reduceEqDiff, Nat.reduceAdd, Nat.reduceMul, Nat.reduceSub, Nat.reduceLeDiff, Int.reduceBEq, Int.reduceBNe, Int.reduceLT, Int.reduceLE, Int.reduceGT, Int.reduceGE, Int.reduceEq, ↓reduceIte, reduceCtorEq, f13], by simp only [go_sem, Nat.reduceEqDiff, Nat.reduceAdd, Nat.reduceMul, Nat.reduceSub, Nat.reduceLeDiff, Int.reduceBEq, Int.reduceBNe, Int.reduceLT, Int.reduceLE, Int.reduceGT, Int.reduceGE, Int.reduceEq, ↓reduceIte, reduceCtorEq], by simp only [go_sem, Nat.reduceEqDiff, Nat.reduceAdd, Nat.reduceMul, Nat.reduceSub, Nat.reduceLeDiff, Int.reduceBEq, Int.reduceBNe, Int.reduceLT, Int.reduceLE, Int.reduceGT, Int.reduceGE, Int.reduceEq, ↓reduceIte, reduceCtorEq, f17], by simp only [go_sem, Nat.reduceEqDiff, Nat.reduceAdd, Nat.reduceMul, Nat.reduceSub, Nat.reduceLeDiff, Int.reduceBEq, Int.reduceBNe, Int.reduceLT, Int.reduceLE, Int.reduceGT, Int.reduceGE, Int.reduceEq, ↓reduceIte, reduceCtorEq], ⟨W.w, e2, e3, e6.trans h3.room, ⟨Y ++ [r], by rw [hY, List.append_assoc]⟩, shortL_app h3.short (fun x hx => by simp at hx; subst hx; exact hrs), by rw [List.length_append]; simp; omega⟩, fun _ => ⟨rfl, by rw [hRR, List.append_assoc, ← take_snoc hr]⟩, by rw [List.length_append]; simp; omega, hs7, o8, n8⟩
  · have hje : j = G.length := by have := of_decide_eq_false hc; omega
    subst hje
    rw [List.take_length] at hof hv'
    simp only [go_sem, Nat.reduceEqDiff, Nat.reduceAdd, Nat.reduceMul, Nat.reduceSub, Nat.reduceLeDiff, Int.reduceBEq, Int.reduceBNe, Int.reduceLT, Int.reduceLE, Int.reduceGT, Int.reduceGE, Int.reduceEq, ↓reduceIte, reduceCtorEq]
    exact crash_sync h3 hof hF hG hT hn i0 i2 hv' hk (by simp only [go_sem, Nat.reduceEqDiff, Nat.reduceAdd, Nat.reduceMul, Nat.reduceSub, Nat.reduceLeDiff, Int.reduceBEq, Int.reduceBNe, Int.reduceLT, Int.reduceLE, Int.reduceGT, Int.reduceGE, Int.reduceEq, ↓reduceIte, reduceCtorEq, f0]) (by simp only [go_sem, Nat.reduceEqDiff, Nat.reduceAdd, Nat.reduceMul, Nat.reduceSub, Nat.reduceLeDiff, Int.reduceBEq, Int.reduceBNe, Int.reduceLT, Int.reduceLE, Int.reduceGT, Int.reduceGE, Int.reduceEq, ↓reduceIte, reduceCtorEq, f2]) (by simp only [go_sem, Nat.reduceEqDiff, Nat.reduceAdd, Nat.reduceMul, Nat.reduceSub, Nat.reduceLeDiff, Int.reduceBEq, Int.reduceBNe, Int.reduceLT, Int.reduceLE, Int.reduceGT, Int.reduceGE, Int.reduceEq, ↓reduceIte, reduceCtorEq, f4, hkv]) (by simp only [go_sem, Nat.reduceEqDiff, Nat.reduceAdd, Nat.reduceMul, Nat.reduceSub, Nat.reduceLeDiff, Int.reduceBEq, Int.reduceBNe, Int.reduceLT, Int.reduceLE, Int.reduceGT, Int.reduceGE, Int.reduceEq, ↓reduceIte, reduceCtorEq, f11]) (by simp only [go_sem, Nat.reduceEqDiff, Nat.reduceAdd, Nat.reduceMul, Nat.reduceSub, Nat.reduceLeDiff, Int.reduceBEq, Int.reduceBNe, Int.reduceLT, Int.reduceLE, Int.reduceGT, Int.reduceGE, Int.reduceEq, ↓reduceIte, reduceCtorEq, f13]) (by simp only [go_sem, Nat.reduceEqDiff, Nat.reduceAdd, Nat.reduceMul, Nat.reduceSub, Nat.reduceLeDiff, Int.reduceBEq, Int.reduceBNe, Int.reduceLT, Int.reduceLE, Int.reduceGT, Int.reduceGE, Int.reduceEq, ↓reduceIte, reduceCtorEq, f15]) (by simp only [go_sem, Nat.reduceEqDiff, Nat.reduceAdd, Nat.reduceMul, Nat.reduceSub, Nat.reduceLeDiff, Int.reduceBEq, Int.reduceBNe, Int.reduceLT, Int.reduceLE, Int.reduceGT, Int.reduceGE, Int.reduceEq, ↓reduceIte, reduceCtorEq, f17]) hj' hQ
end Go.VM
