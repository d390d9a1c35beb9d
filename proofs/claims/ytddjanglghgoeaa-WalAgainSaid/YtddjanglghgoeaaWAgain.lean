/-
  WalAgain. NEWPP
-/
import Derived.Test.YtddjanglghgoeaaWOk
set_option maxRecDepth 20000
set_option linter.unusedVariables false
set_option linter.unusedSimpArgs false
namespace Go.VM
open Go Go.RowKit Go.Proofs

theorem IsSlice.cons {cs : List V} {n : Nat} {r : List UInt8} {L : List (List UInt8)} {t : Tok} (h : IsSlice BytesR 1 (.sl cs n 1 t) (r :: L) t) : ∃ v vs, cs = v :: vs ∧ IsBytes v r ∧ t ≠ .nil ∧ (L ≠ [] → IsSlice BytesR 1 (.sl vs L.length 1 t) L t) ∧ (L = [] → vs = []) := by
  obtain ⟨C, e, hn, hs, hl, hR⟩ := h.ex
  injection e with e1 e2
  subst e1; subst e2
  match C, hl with
  | c :: C, hl =>
    have hc := hs c (by simp)
    obtain ⟨v, rfl, hv⟩ := hR 0 c r rfl rfl
    refine ⟨v, C.flatten, by simp, hv, fun e => (by cases hn e), fun hL => ⟨C, rfl, fun e => absurd (hn e) (by simp), fun c hc => hs c (by simp [hc]), by simpa using hl, fun j c x h1 h2 => hR (j + 1) c x (by simpa using h1) (by simpa using h2)⟩, fun hL => ?_⟩
    subst hL
    have : C = [] := List.eq_nil_of_length_eq_zero (by simpa using hl)
    subst this; rfl

theorem walAgain_runs {w0 : World} {va vb vc : V} {a b c : List UInt8} {k : Int} (ha : IsBytes va a) (hb : IsBytes vb b) (hcc : IsBytes vc c) (la : a.length ≤ 1000000000000000) (lb : b.length ≤ 1000000000000000) (lc : c.length ≤ 1000000000000000) {S : St} {Q : AEnd → St → Prop} (hQ : ∀ S', Q (.ret (.bool true)) S') :
    RSim Try.prog w0 n_l04_WalAgain [va, vb, vc, .int .i64 k] S Q := by
  have hA : nameOk [108, 111, 103] = true := by decide
  have hB : nameOk (newN [108, 111, 103]) = true := by decide
  have hLa := (ha.into S (fun _ => False)).len
  simp only [aF, Arg.ev] at hLa
  have hLb := (hb.into S (fun _ => False)).len
  simp only [aF, Arg.ev] at hLb
  have hLc := (hcc.into S (fun _ => False)).len
  simp only [aF, Arg.ev] at hLc
  refine RSim.run mixed k_l04_WalAgain ?_ (by simp)
  simp only [b_l04_WalAgain, go_sem, Nat.reduceEqDiff, Nat.reduceAdd, Nat.reduceMul, Nat.reduceSub, Nat.reduceLeDiff, Int.reduceBEq, Int.reduceBNe, Int.reduceLT, Int.reduceLE, Int.reduceGT, Int.reduceGE, Int.reduceEq, ↓reduceIte, reduceCtorEq]
  refine wi_call ?_
  simp only [go_sem, Nat.reduceEqDiff, Nat.reduceAdd, Nat.reduceMul, Nat.reduceSub, Nat.reduceLeDiff, Int.reduceBEq, Int.reduceBNe, Int.reduceLT, Int.reduceLE, Int.reduceGT, Int.reduceGE, Int.reduceEq, ↓reduceIte, reduceCtorEq]
  refine walAwake_runs fun S0 k0 => ?_
  have w1 : IntKind.i64.wrap ((a.length : Int) + (b.length : Int)) = (a.length : Int) + b.length := w64 (by omega) (by omega)
  have w2 : IntKind.i64.wrap ((a.length : Int) + (b.length : Int) + (c.length : Int)) = (a.length : Int) + b.length + c.length := w64 (by omega) (by omega)
  simp only [go_sem, Nat.reduceEqDiff, Nat.reduceAdd, Nat.reduceMul, Nat.reduceSub, Nat.reduceLeDiff, Int.reduceBEq, Int.reduceBNe, Int.reduceLT, Int.reduceLE, Int.reduceGT, Int.reduceGE, Int.reduceEq, ↓reduceIte, reduceCtorEq, hLa, hLb, hLc, w1, w2]
  refine wc_ite (b := decide ((a.length : Int) + b.length + c.length > 3000)) (by simp only [go_sem, Nat.reduceEqDiff, Nat.reduceAdd, Nat.reduceMul, Nat.reduceSub, Nat.reduceLeDiff, Int.reduceBEq, Int.reduceBNe, Int.reduceLT, Int.reduceLE, Int.reduceGT, Int.reduceGE, Int.reduceEq, ↓reduceIte, reduceCtorEq]) (fun hc => ?_) (fun hc => ?_)
  · simp only [go_sem, Nat.reduceEqDiff, Nat.reduceAdd, Nat.reduceMul, Nat.reduceSub, Nat.reduceLeDiff, Int.reduceBEq, Int.reduceBNe, Int.reduceLT, Int.reduceLE, Int.reduceGT, Int.reduceGE, Int.reduceEq, ↓reduceIte, reduceCtorEq]
    refine wi_call ?_
    simp only [go_sem, Nat.reduceEqDiff, Nat.reduceAdd, Nat.reduceMul, Nat.reduceSub, Nat.reduceLeDiff, Int.reduceBEq, Int.reduceBNe, Int.reduceLT, Int.reduceLE, Int.reduceGT, Int.reduceGE, Int.reduceEq, ↓reduceIte, reduceCtorEq]
    refine walAwake_runs fun S0 k0 => ?_
    simp only [go_sem, Nat.reduceEqDiff, Nat.reduceAdd, Nat.reduceMul, Nat.reduceSub, Nat.reduceLeDiff, Int.reduceBEq, Int.reduceBNe, Int.reduceLT, Int.reduceLE, Int.reduceGT, Int.reduceGE, Int.reduceEq, ↓reduceIte, reduceCtorEq]
    exact hQ _
  have hsum : a.length + b.length + c.length ≤ 3000 := by have := of_decide_eq_false ‹_›; omega
  have fa := frameB_le (r := a) (by omega)
  have fb := frameB_le (r := b) (by omega)
  have fc := frameB_le (r := c) (by omega)
  have l1 : (fileB ([] ++ [a])).length = (frameB a).length := by simp [fileB]
  have l2 : (fileB ([] ++ [a] ++ [b])).length = (frameB a).length + (frameB b).length := by simp [fileB]
  simp only [go_sem, Nat.reduceEqDiff, Nat.reduceAdd, Nat.reduceMul, Nat.reduceSub, Nat.reduceLeDiff, Int.reduceBEq, Int.reduceBNe, Int.reduceLT, Int.reduceLE, Int.reduceGT, Int.reduceGE, Int.reduceEq, ↓reduceIte, reduceCtorEq]
  refine wi_call ?_
  simp only [go_sem, Nat.reduceEqDiff, Nat.reduceAdd, Nat.reduceMul, Nat.reduceSub, Nat.reduceLeDiff, Int.reduceBEq, Int.reduceBNe, Int.reduceLT, Int.reduceLE, Int.reduceGT, Int.reduceGE, Int.reduceEq, ↓reduceIte, reduceCtorEq]
  refine new_ok [108, 111, 103] (by decide) (by decide) fun S1 i D1 h1 c1 o1 k1 => ?_
  simp only [go_sem, Nat.reduceEqDiff, Nat.reduceAdd, Nat.reduceMul, Nat.reduceSub, Nat.reduceLeDiff, Int.reduceBEq, Int.reduceBNe, Int.reduceLT, Int.reduceLE, Int.reduceGT, Int.reduceGE, Int.reduceEq, ↓reduceIte, reduceCtorEq]
  refine wi_call ?_
  simp only [go_sem, Nat.reduceEqDiff, Nat.reduceAdd, Nat.reduceMul, Nat.reduceSub, Nat.reduceLeDiff, Int.reduceBEq, Int.reduceBNe, Int.reduceLT, Int.reduceLE, Int.reduceGT, Int.reduceGE, Int.reduceEq, ↓reduceIte, reduceCtorEq]
  refine open_ok (L := []) (n := 0) h1 hA hB (by decide) (Nat.zero_le _) scans_nil (fun _ => rfl) (by decide) fun S2 D2 g t2 h2 k2 o2 _ _ => ?_
  simp only [go_sem, Nat.reduceEqDiff, Nat.reduceAdd, Nat.reduceMul, Nat.reduceSub, Nat.reduceLeDiff, Int.reduceBEq, Int.reduceBNe, Int.reduceLT, Int.reduceLE, Int.reduceGT, Int.reduceGE, Int.reduceEq, ↓reduceIte, reduceCtorEq]
  refine wi_call ?_
  simp only [go_sem, Nat.reduceEqDiff, Nat.reduceAdd, Nat.reduceMul, Nat.reduceSub, Nat.reduceLeDiff, Int.reduceBEq, Int.reduceBNe, Int.reduceLT, Int.reduceLE, Int.reduceGT, Int.reduceGE, Int.reduceEq, ↓reduceIte, reduceCtorEq]
  refine append_ok (r := a) h2 hA ha (by omega) (by simp [fileB]; omega) fun S3 D3 t3 h3 k3 o3 => ?_
  simp only [go_sem, Nat.reduceEqDiff, Nat.reduceAdd, Nat.reduceMul, Nat.reduceSub, Nat.reduceLeDiff, Int.reduceBEq, Int.reduceBNe, Int.reduceLT, Int.reduceLE, Int.reduceGT, Int.reduceGE, Int.reduceEq, ↓reduceIte, reduceCtorEq]
  refine wi_call ?_
  simp only [go_sem, Nat.reduceEqDiff, Nat.reduceAdd, Nat.reduceMul, Nat.reduceSub, Nat.reduceLeDiff, Int.reduceBEq, Int.reduceBNe, Int.reduceLT, Int.reduceLE, Int.reduceGT, Int.reduceGE, Int.reduceEq, ↓reduceIte, reduceCtorEq]
  refine sync_ok h3 hA fun S4 D4 h4 k4 o4 => ?_
  rw [l1] at h4
  simp only [go_sem, Nat.reduceEqDiff, Nat.reduceAdd, Nat.reduceMul, Nat.reduceSub, Nat.reduceLeDiff, Int.reduceBEq, Int.reduceBNe, Int.reduceLT, Int.reduceLE, Int.reduceGT, Int.reduceGE, Int.reduceEq, ↓reduceIte, reduceCtorEq]
  refine wi_call ?_
  simp only [go_sem, Nat.reduceEqDiff, Nat.reduceAdd, Nat.reduceMul, Nat.reduceSub, Nat.reduceLeDiff, Int.reduceBEq, Int.reduceBNe, Int.reduceLT, Int.reduceLE, Int.reduceGT, Int.reduceGE, Int.reduceEq, ↓reduceIte, reduceCtorEq]
  refine append_ok (r := b) h4 hA hb (by omega) (by rw [l1]; omega) fun S5 D5 t5 h5 k5 o5 => ?_
  simp only [go_sem, Nat.reduceEqDiff, Nat.reduceAdd, Nat.reduceMul, Nat.reduceSub, Nat.reduceLeDiff, Int.reduceBEq, Int.reduceBNe, Int.reduceLT, Int.reduceLE, Int.reduceGT, Int.reduceGE, Int.reduceEq, ↓reduceIte, reduceCtorEq]
  refine wc_ite (b := false) (by simp only [go_sem, Nat.reduceEqDiff, Nat.reduceAdd, Nat.reduceMul, Nat.reduceSub, Nat.reduceLeDiff, Int.reduceBEq, Int.reduceBNe, Int.reduceLT, Int.reduceLE, Int.reduceGT, Int.reduceGE, Int.reduceEq, ↓reduceIte, reduceCtorEq] <;> rfl) (fun h => by cases h) (fun _ => ?_)
  simp only [go_sem, Nat.reduceEqDiff, Nat.reduceAdd, Nat.reduceMul, Nat.reduceSub, Nat.reduceLeDiff, Int.reduceBEq, Int.reduceBNe, Int.reduceLT, Int.reduceLE, Int.reduceGT, Int.reduceGE, Int.reduceEq, ↓reduceIte, reduceCtorEq]
  refine wi_call ?_
  simp only [go_sem, Nat.reduceEqDiff, Nat.reduceAdd, Nat.reduceMul, Nat.reduceSub, Nat.reduceLeDiff, Int.reduceBEq, Int.reduceBNe, Int.reduceLT, Int.reduceLE, Int.reduceGT, Int.reduceGE, Int.reduceEq, ↓reduceIte, reduceCtorEq]
  refine restart_ok (keep := [k]) (kt := .cap) h5.w.d h5.v h5.room (by intro h; cases h) fun S6 D6 m hm1 hm2 hm3 h6 A6 => ?_
  simp only [go_sem, Nat.reduceEqDiff, Nat.reduceAdd, Nat.reduceMul, Nat.reduceSub, Nat.reduceLeDiff, Int.reduceBEq, Int.reduceBNe, Int.reduceLT, Int.reduceLE, Int.reduceGT, Int.reduceGE, Int.reduceEq, ↓reduceIte, reduceCtorEq]
  refine wi_call ?_
  simp only [go_sem, Nat.reduceEqDiff, Nat.reduceAdd, Nat.reduceMul, Nat.reduceSub, Nat.reduceLeDiff, Int.reduceBEq, Int.reduceBNe, Int.reduceLT, Int.reduceLE, Int.reduceGT, Int.reduceGE, Int.reduceEq, ↓reduceIte, reduceCtorEq]
  have hsh : shortL ([] ++ [a] ++ [b]) := by intro r hr; simp at hr; rcases hr with rfl | rfl <;> omega
  obtain ⟨j, hj, hsc, hle, hmax⟩ := scans_cut (L := [] ++ [a] ++ [b]) m hsh
  have hj1 : 1 ≤ j := hmax 1 (by simp) (by have : ([] ++ [a] ++ [b] : List (List UInt8)).take 1 = [] ++ [a] := rfl; rw [this, l1]; omega)
  have hj2 : j ≤ 2 := by simpa using hj
  have hfj : (fileB (([] ++ [a] ++ [b]).take j)).length ≤ 6027 := by have := fileB_take_le ([] ++ [a] ++ [b]) j; omega
  refine open_ok h6 hA hB (by decide) (by rw [List.length_take]; omega) hsc (fun h => take_pre' hm2 h) (by rw [List.length_take]; omega) fun S7 D7 g7 t7 h7 k7 o7 _ _ => ?_
  simp only [go_sem, Nat.reduceEqDiff, Nat.reduceAdd, Nat.reduceMul, Nat.reduceSub, Nat.reduceLeDiff, Int.reduceBEq, Int.reduceBNe, Int.reduceLT, Int.reduceLE, Int.reduceGT, Int.reduceGE, Int.reduceEq, ↓reduceIte, reduceCtorEq]
  refine wc_ite (b := false) (by simp only [go_sem, Nat.reduceEqDiff, Nat.reduceAdd, Nat.reduceMul, Nat.reduceSub, Nat.reduceLeDiff, Int.reduceBEq, Int.reduceBNe, Int.reduceLT, Int.reduceLE, Int.reduceGT, Int.reduceGE, Int.reduceEq, ↓reduceIte, reduceCtorEq] <;> rfl) (fun h => by cases h) (fun _ => ?_)
  simp only [go_sem, Nat.reduceEqDiff, Nat.reduceAdd, Nat.reduceMul, Nat.reduceSub, Nat.reduceLeDiff, Int.reduceBEq, Int.reduceBNe, Int.reduceLT, Int.reduceLE, Int.reduceGT, Int.reduceGE, Int.reduceEq, ↓reduceIte, reduceCtorEq]
  refine wi_call ?_
  simp only [go_sem, Nat.reduceEqDiff, Nat.reduceAdd, Nat.reduceMul, Nat.reduceSub, Nat.reduceLeDiff, Int.reduceBEq, Int.reduceBNe, Int.reduceLT, Int.reduceLE, Int.reduceGT, Int.reduceGE, Int.reduceEq, ↓reduceIte, reduceCtorEq]
  refine logLen_runs h7.w ?_
  have hjl : (([] ++ [a] ++ [b] : List (List UInt8)).take j).length = j := by rw [List.length_take]; simp; omega
  rw [hjl]
  have q1 : decide ((j : Int) < 1) = false := decide_eq_false (by omega)
  have q2 : decide ((j : Int) > 2) = false := decide_eq_false (by omega)
  simp only [go_sem, Nat.reduceEqDiff, Nat.reduceAdd, Nat.reduceMul, Nat.reduceSub, Nat.reduceLeDiff, Int.reduceBEq, Int.reduceBNe, Int.reduceLT, Int.reduceLE, Int.reduceGT, Int.reduceGE, Int.reduceEq, ↓reduceIte, reduceCtorEq, q1, q2]
  refine wi_call ?_
  simp only [go_sem, Nat.reduceEqDiff, Nat.reduceAdd, Nat.reduceMul, Nat.reduceSub, Nat.reduceLeDiff, Int.reduceBEq, Int.reduceBNe, Int.reduceLT, Int.reduceLE, Int.reduceGT, Int.reduceGE, Int.reduceEq, ↓reduceIte, reduceCtorEq]
  refine append_ok (r := c) h7 hA hcc (by omega) (by omega) fun S8 D8 t8 h8 k8 o8 => ?_
  simp only [go_sem, Nat.reduceEqDiff, Nat.reduceAdd, Nat.reduceMul, Nat.reduceSub, Nat.reduceLeDiff, Int.reduceBEq, Int.reduceBNe, Int.reduceLT, Int.reduceLE, Int.reduceGT, Int.reduceGE, Int.reduceEq, ↓reduceIte, reduceCtorEq]
  refine wi_call ?_
  simp only [go_sem, Nat.reduceEqDiff, Nat.reduceAdd, Nat.reduceMul, Nat.reduceSub, Nat.reduceLeDiff, Int.reduceBEq, Int.reduceBNe, Int.reduceLT, Int.reduceLE, Int.reduceGT, Int.reduceGE, Int.reduceEq, ↓reduceIte, reduceCtorEq]
  refine sync_ok h8 hA fun S9 D9 h9 k9 o9 => ?_
  simp only [go_sem, Nat.reduceEqDiff, Nat.reduceAdd, Nat.reduceMul, Nat.reduceSub, Nat.reduceLeDiff, Int.reduceBEq, Int.reduceBNe, Int.reduceLT, Int.reduceLE, Int.reduceGT, Int.reduceGE, Int.reduceEq, ↓reduceIte, reduceCtorEq]
  refine wc_ite (b := false) (by simp only [go_sem, Nat.reduceEqDiff, Nat.reduceAdd, Nat.reduceMul, Nat.reduceSub, Nat.reduceLeDiff, Int.reduceBEq, Int.reduceBNe, Int.reduceLT, Int.reduceLE, Int.reduceGT, Int.reduceGE, Int.reduceEq, ↓reduceIte, reduceCtorEq] <;> rfl) (fun h => by cases h) (fun _ => ?_)
  simp only [go_sem, Nat.reduceEqDiff, Nat.reduceAdd, Nat.reduceMul, Nat.reduceSub, Nat.reduceLeDiff, Int.reduceBEq, Int.reduceBNe, Int.reduceLT, Int.reduceLE, Int.reduceGT, Int.reduceGE, Int.reduceEq, ↓reduceIte, reduceCtorEq]
  refine wi_call ?_
  simp only [go_sem, Nat.reduceEqDiff, Nat.reduceAdd, Nat.reduceMul, Nat.reduceSub, Nat.reduceLeDiff, Int.reduceBEq, Int.reduceBNe, Int.reduceLT, Int.reduceLE, Int.reduceGT, Int.reduceGE, Int.reduceEq, ↓reduceIte, reduceCtorEq]
  refine restart_ok (keep := []) (kt := .nil) h9.w.d h9.v h9.room (fun _ => rfl) fun S10 D10 m' hm1' hm2' hm3' h10 A10 => ?_
  simp only [go_sem, Nat.reduceEqDiff, Nat.reduceAdd, Nat.reduceMul, Nat.reduceSub, Nat.reduceLeDiff, Int.reduceBEq, Int.reduceBNe, Int.reduceLT, Int.reduceLE, Int.reduceGT, Int.reduceGE, Int.reduceEq, ↓reduceIte, reduceCtorEq]
  refine wi_call ?_
  simp only [go_sem, Nat.reduceEqDiff, Nat.reduceAdd, Nat.reduceMul, Nat.reduceSub, Nat.reduceLeDiff, Int.reduceBEq, Int.reduceBNe, Int.reduceLT, Int.reduceLE, Int.reduceGT, Int.reduceGE, Int.reduceEq, ↓reduceIte, reduceCtorEq]
  have hm' : m' = (fileB (([] ++ [a] ++ [b]).take j ++ [c])).length := by omega
  subst hm'
  rw [List.take_length] at h10
  have hl8 : (fileB (([] ++ [a] ++ [b]).take j ++ [c])).length ≤ 9100 := by rw [fileB_snoc, List.length_append]; omega
  have hsh8 : shortL (([] ++ [a] ++ [b]).take j ++ [c]) := by
    intro r hr
    rcases List.mem_append.1 hr with hr | hr
    · exact hsh r (List.mem_of_mem_take hr)
    · simp at hr; subst hr; omega
  refine open_ok h10 hA hB (by decide) (Nat.le_refl _) (scans_file hsh8) (fun _ => rfl) (by omega) fun S11 D11 g11 t11 h11 k11 o11 _ _ => ?_
  simp only [go_sem, Nat.reduceEqDiff, Nat.reduceAdd, Nat.reduceMul, Nat.reduceSub, Nat.reduceLeDiff, Int.reduceBEq, Int.reduceBNe, Int.reduceLT, Int.reduceLE, Int.reduceGT, Int.reduceGE, Int.reduceEq, ↓reduceIte, reduceCtorEq]
  refine wi_call ?_
  simp only [go_sem, Nat.reduceEqDiff, Nat.reduceAdd, Nat.reduceMul, Nat.reduceSub, Nat.reduceLeDiff, Int.reduceBEq, Int.reduceBNe, Int.reduceLT, Int.reduceLE, Int.reduceGT, Int.reduceGE, Int.reduceEq, ↓reduceIte, reduceCtorEq]
  refine all_runs h11.w (fun r hr => by have := hsh8 r hr; omega) (by simp; omega) fun S12 v t12 hv k12 => ?_
  have ca := fun S => ha.convS S
  have cb := fun S => hb.convS S
  have cc := fun S => hcc.convS S
  have y1 : IntKind.i64.wrap (((1 : Nat) : Int) + 1) = 2 := by decide
  have y2 : IntKind.i64.wrap (((2 : Nat) : Int) + 1) = 3 := by decide
  have y3 : (((2 : Nat) : Int) == 2) = true := by decide
  have y4 : (((3 : Nat) : Int) == 3) = true := by decide
  have y5 : (((1 : Nat) : Int) == 1) = true := by decide
  have y6 : (((2 : Nat) : Int) == 1) = false := by decide
  have z1 : ((0 : Nat) < 2) = True := eq_true (by decide)
  have z2 : ((1 : Nat) < 2) = True := eq_true (by decide)
  have z3 : ((0 : Nat) < 3) = True := eq_true (by decide)
  have z4 : ((1 : Nat) < 3) = True := eq_true (by decide)
  have z5 : ((2 : Nat) < 3) = True := eq_true (by decide)
  rcases (show j = 1 ∨ j = 2 by omega) with rfl | rfl
  · have e : ([] ++ [a] ++ [b] : List (List UInt8)).take 1 ++ [c] = [a, c] := rfl
    rw [e] at hv
    obtain ⟨cs, rfl⟩ := hv.len
    obtain ⟨v0, vs, rfl, hv0, htn, hr, _⟩ := hv.cons
    obtain ⟨v1, vs', rfl, hv1, _, _, hz⟩ := (hr (by simp)).cons
    have := hz rfl
    subst this
    have c0 := fun S => hv0.convS S
    have c1 := fun S => hv1.convS S
    simp only [go_sem, Nat.reduceEqDiff, Nat.reduceAdd, Nat.reduceMul, Nat.reduceSub, Nat.reduceLeDiff, Int.reduceBEq, Int.reduceBNe, Int.reduceLT, Int.reduceLE, Int.reduceGT, Int.reduceGE, Int.reduceEq, ↓reduceIte, reduceCtorEq, htn, c0, c1, ca, cb, cc, Int.toNat_zero, Int.toNat_one, Nat.zero_mul, Nat.one_mul, z1, z2, z3, z4, z5, y1, y2, y3, y4, y5, y6]
    exact hQ _
  · have e : ([] ++ [a] ++ [b] : List (List UInt8)).take 2 ++ [c] = [a, b, c] := rfl
    rw [e] at hv
    obtain ⟨cs, rfl⟩ := hv.len
    obtain ⟨v0, vs, rfl, hv0, htn, hr, _⟩ := hv.cons
    obtain ⟨v1, vs', rfl, hv1, _, hr1, _⟩ := (hr (by simp)).cons
    obtain ⟨v2, vs'', rfl, hv2, _, _, hz⟩ := (hr1 (by simp)).cons
    have := hz rfl
    subst this
    have c0 := fun S => hv0.convS S
    have c1 := fun S => hv1.convS S
    have c2 := fun S => hv2.convS S
    simp only [go_sem, Nat.reduceEqDiff, Nat.reduceAdd, Nat.reduceMul, Nat.reduceSub, Nat.reduceLeDiff, Int.reduceBEq, Int.reduceBNe, Int.reduceLT, Int.reduceLE, Int.reduceGT, Int.reduceGE, Int.reduceEq, ↓reduceIte, reduceCtorEq, htn, c0, c1, c2, ca, cb, cc, Int.toNat_zero, Int.toNat_one, Nat.zero_mul, Nat.one_mul, z1, z2, z3, z4, z5, y1, y2, y3, y4, y5, y6]
    exact hQ _
end Go.VM
