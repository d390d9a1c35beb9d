/-
  DiskLasts: the run. NEWPP
-/
import Derived.Test.YtddjanglghgoeaaDLasts
set_option linter.unusedVariables false
set_option linter.unusedSimpArgs false
namespace Go.VM
open Go Go.RowKit Go.Proofs

theorem IsBytes.cut_hi {v : V} {bs : List UInt8} (h : IsBytes v bs) {n : Nat} (hn : n ≤ bs.length) (k : Nat) : ∃ v', (∀ fr : Fr, (fr k).idx = some n → sliceV fr 1 none (some (.t k)) none v = some v') ∧ IsBytes v' (bs.take n) := by
  obtain ⟨t, rfl, ht⟩ := h
  by_cases h0 : t = .nil
  · have := ht h0
    subst this; subst h0
    have hn : n ≤ 0 := by simpa using hn
    refine ⟨.sl [] 0 1 .nil, fun fr hf => ?_, by simpa using isBytes_nil⟩
    simp only [sliceV, bounds_hi, Arg.ev, hf, Option.bind_some, List.length_nil, hn, if_true, List.map_nil, Option.isSome_none, Bool.false_eq_true, if_false]
  · refine ⟨.sl ((bs.take n).map u8V) n 1 (if n = bs.length then t else .no), fun fr hf => ?_, ?_⟩
    · simp only [sliceV, bounds_hi, Arg.ev, hf, Option.bind_some, hn, if_true, if_false, h0, ne_eq, not_true_eq_false, Nat.zero_mul, List.drop_zero, Nat.sub_zero, Nat.mul_one, List.map_take]
    · have e : (bs.take n).length = n := by rw [List.length_take]; omega
      have := isBytes_mk (bs.take n) (t := if n = bs.length then t else .no) (by split <;> simp [h0])
      rw [e] at this
      exact this
theorem IsBytes.cut_lo {v : V} {bs : List UInt8} (h : IsBytes v bs) {n : Nat} (hn : n ≤ bs.length) (k : Nat) : ∃ v', (∀ fr : Fr, (fr k).idx = some n → sliceV fr 1 (some (.t k)) none none v = some v') ∧ IsBytes v' (bs.drop n) := by
  obtain ⟨t, rfl, ht⟩ := h
  by_cases h0 : t = .nil
  · have := ht h0
    subst this; subst h0
    have hn : n ≤ 0 := by simpa using hn
    refine ⟨.sl [] 0 1 .nil, fun fr hf => ?_, by simpa using isBytes_nil⟩
    simp only [sliceV, bounds_lo, Arg.ev, hf, Option.bind_some, List.length_nil, hn, if_true, List.map_nil, Option.isSome_none, Bool.false_eq_true, if_false]
  · refine ⟨.sl ((bs.drop n).map u8V) (bs.length - n) 1 t, fun fr hf => ?_, ?_⟩
    · simp only [sliceV, bounds_lo, Arg.ev, hf, Option.bind_some, hn, if_true, if_false, h0, ne_eq, not_true_eq_false, Nat.mul_one, List.map_drop]
      rw [List.take_of_length_le (by simp)]
    · have := isBytes_mk (bs.drop n) (t := t) h0
      rw [List.length_drop] at this
      exact this

theorem lasts_all (f s t : List UInt8) (keep : List Int) (hl : f.length + s.length + t.length ≤ 3000) (k : Nat) (hk : k < 7) : LastsOk f s t keep ⟨[⟨[97], f, f.length⟩], 10000, 0 + (f.length : Int), 2, k, false⟩ := by
  rcases (show k = 0 ∨ k = 1 ∨ k = 2 ∨ k = 3 ∨ k = 4 ∨ k = 5 ∨ k = 6 by omega) with rfl | rfl | rfl | rfl | rfl | rfl | rfl
  · exact lasts0 f s t keep hl
  · exact lasts1 f s t keep hl
  · exact lasts2 f s t keep hl
  · exact lasts3 f s t keep hl
  · exact lasts4 f s t keep hl
  · exact lasts5 f s t keep hl
  · exact lasts6 f s t keep hl

theorem u8_rem7 (k : Int) (h : 0 ≤ k) : (IntKind.i64.wrap k) = k → k.tmod 7 = ((k.toNat % 7 : Nat) : Int) := fun _ => by
  rw [Int.tmod_eq_emod_of_nonneg h]; omega

theorem lasts_tail {w0 : World} {fr : Fr} {S : St} {Q : AEnd → St → Prop} {i : Nat} {D : Dk} {f s t : List UInt8} {vf vs vt : V} {n : Nat} {rn : Bool} (d : DiskAt S i D) (hf : IsBytes vf f) (hsv : IsBytes vs s) (htv : IsBytes vt t) (hn : n ≤ s.length) (hl : f.length + s.length + t.length ≤ 3000)
    (g0 : fr 0 = vf) (g1 : fr 1 = vs) (g2 : fr 2 = vt) (g11 : fr 11 = .ptr (some (i, 0))) (g14 : fr 14 = .bool rn) (m2 : D.abs.readE [97] = 0) (m3 : D.abs.bytes [97] = f ++ s.take n)
    (m4 : rn = true → D.abs.readE [99] = 0 ∧ D.abs.bytes [99] = t) (m5 : rn = false → D.abs.readE [99] = 8 ∧ D.abs.bytes [99] = []) (hQ : ∀ S', Q (.ret (.bool true)) S') :
    wCode (RSim Try.prog w0) r_l02_DiskLasts_1 fr S (resQ [.tmp 10] Q) := by
  simp only [r_l02_DiskLasts_1, go_sem, Nat.reduceEqDiff, Nat.reduceAdd, Nat.reduceMul, Nat.reduceSub, Nat.reduceLeDiff, Int.reduceBEq, Int.reduceBNe, Int.reduceLT, Int.reduceLE, Int.reduceGT, Int.reduceGE, Int.reduceEq, ↓reduceIte, reduceCtorEq, g11]
  refine wi_call ?_
  simp only [go_sem, Nat.reduceEqDiff, Nat.reduceAdd, Nat.reduceMul, Nat.reduceSub, Nat.reduceLeDiff, Int.reduceBEq, Int.reduceBNe, Int.reduceLT, Int.reduceLE, Int.reduceGT, Int.reduceGE, Int.reduceEq, ↓reduceIte, reduceCtorEq]
  refine read_abs d (by simp) fun S1 p hp k1 => ?_
  rw [m2]
  rw [m3] at hp
  have d1 := d.stay k1
  simp only [go_sem, Nat.reduceEqDiff, Nat.reduceAdd, Nat.reduceMul, Nat.reduceSub, Nat.reduceLeDiff, Int.reduceBEq, Int.reduceBNe, Int.reduceLT, Int.reduceLE, Int.reduceGT, Int.reduceGE, Int.reduceEq, ↓reduceIte, reduceCtorEq, g11]
  refine wi_call ?_
  simp only [go_sem, Nat.reduceEqDiff, Nat.reduceAdd, Nat.reduceMul, Nat.reduceSub, Nat.reduceLeDiff, Int.reduceBEq, Int.reduceBNe, Int.reduceLT, Int.reduceLE, Int.reduceGT, Int.reduceGE, Int.reduceEq, ↓reduceIte, reduceCtorEq]
  refine read_abs d1 (by simp) fun S2 q hq k2 => ?_
  generalize hE : D.abs.readE [99] = e at *
  generalize hB : D.abs.bytes [99] = bs at *
  have hlp : (f ++ s.take n).length = f.length + n := by simp; omega
  have hLf := (hf.into S (fun _ => False)).len
  have hLs := (hsv.into S (fun _ => False)).len
  have hLp := (hp.into S (fun _ => False)).len
  rw [hlp] at hLp
  simp only [aF, Arg.ev] at hLf hLs hLp
  obtain ⟨v1, s1, b1⟩ := hp.cut_hi (n := f.length) (by omega) 114
  obtain ⟨v2, s2, b2⟩ := hp.cut_lo (n := f.length) (by omega) 124
  obtain ⟨v3, s3, b3⟩ := hsv.cut_hi (n := n) hn 132
  rw [List.take_left] at b1
  rw [List.drop_left] at b2
  have c1 : ∀ S, V.conv S .bytesStr v1 = some (.str (mkS f)) := fun S => b1.convS S
  have c2 : ∀ S, V.conv S .bytesStr v2 = some (.str (mkS (s.take n))) := fun S => b2.convS S
  have c3 : ∀ S, V.conv S .bytesStr v3 = some (.str (mkS (s.take n))) := fun S => b3.convS S
  have cf : ∀ S, V.conv S .bytesStr vf = some (.str (mkS f)) := fun S => hf.convS S
  have w1 : IntKind.i64.wrap ((f.length : Int) + s.length) = (f.length : Int) + s.length := w64 (by omega) (by omega)
  have w2 : IntKind.i64.wrap (((f.length + n : Nat) : Int) - f.length) = (n : Int) := by rw [w64 (by omega) (by omega)]; omega
  have x1 : decide (((f.length + n : Nat) : Int) < f.length) = false := decide_eq_false (by omega)
  have x2 : decide (((f.length + n : Nat) : Int) > (f.length : Int) + s.length) = false := decide_eq_false (by omega)
  have s1' := s1 (fr00.put (some 114) (.int .i64 f.length)) (by simp only [go_sem, Nat.reduceEqDiff, Nat.reduceAdd, Nat.reduceMul, Nat.reduceSub, Nat.reduceLeDiff, Int.reduceBEq, Int.reduceBNe, Int.reduceLT, Int.reduceLE, Int.reduceGT, Int.reduceGE, Int.reduceEq, ↓reduceIte, reduceCtorEq])
  have s2' := s2 (fr00.put (some 124) (.int .i64 f.length)) (by simp only [go_sem, Nat.reduceEqDiff, Nat.reduceAdd, Nat.reduceMul, Nat.reduceSub, Nat.reduceLeDiff, Int.reduceBEq, Int.reduceBNe, Int.reduceLT, Int.reduceLE, Int.reduceGT, Int.reduceGE, Int.reduceEq, ↓reduceIte, reduceCtorEq])
  have s3' := s3 (fr00.put (some 132) (.int .i64 n)) (by simp only [go_sem, Nat.reduceEqDiff, Nat.reduceAdd, Nat.reduceMul, Nat.reduceSub, Nat.reduceLeDiff, Int.reduceBEq, Int.reduceBNe, Int.reduceLT, Int.reduceLE, Int.reduceGT, Int.reduceGE, Int.reduceEq, ↓reduceIte, reduceCtorEq])
  simp only [go_sem, Nat.reduceEqDiff, Nat.reduceAdd, Nat.reduceMul, Nat.reduceSub, Nat.reduceLeDiff, Int.reduceBEq, Int.reduceBNe, Int.reduceLT, Int.reduceLE, Int.reduceGT, Int.reduceGE, Int.reduceEq, ↓reduceIte, reduceCtorEq] at s1' s2' s3'
  simp only [go_sem, Nat.reduceEqDiff, Nat.reduceAdd, Nat.reduceMul, Nat.reduceSub, Nat.reduceLeDiff, Int.reduceBEq, Int.reduceBNe, Int.reduceLT, Int.reduceLE, Int.reduceGT, Int.reduceGE, Int.reduceEq, ↓reduceIte, reduceCtorEq, g0, g1, hLf, hLs, hLp, x1, x2, w1, w2, s1', s2', s3', c1, c2, c3, cf]
  refine wc_ite (b := false) (by simp only [go_sem, Nat.reduceEqDiff, Nat.reduceAdd, Nat.reduceMul, Nat.reduceSub, Nat.reduceLeDiff, Int.reduceBEq, Int.reduceBNe, Int.reduceLT, Int.reduceLE, Int.reduceGT, Int.reduceGE, Int.reduceEq, ↓reduceIte, reduceCtorEq] <;> rfl) (fun h => by cases h) (fun _ => ?_)
  simp only [r_l02_DiskLasts_0, go_sem, Nat.reduceEqDiff, Nat.reduceAdd, Nat.reduceMul, Nat.reduceSub, Nat.reduceLeDiff, Int.reduceBEq, Int.reduceBNe, Int.reduceLT, Int.reduceLE, Int.reduceGT, Int.reduceGE, Int.reduceEq, ↓reduceIte, reduceCtorEq, g2, g14]
  cases rn with
  | true =>
    obtain ⟨rfl, rfl⟩ := m4 rfl
    have cq : ∀ S, V.conv S .bytesStr q = some (.str (mkS bs)) := fun S => hq.convS S
    have ct : ∀ S, V.conv S .bytesStr vt = some (.str (mkS bs)) := fun S => htv.convS S
    simp only [go_sem, Nat.reduceEqDiff, Nat.reduceAdd, Nat.reduceMul, Nat.reduceSub, Nat.reduceLeDiff, Int.reduceBEq, Int.reduceBNe, Int.reduceLT, Int.reduceLE, Int.reduceGT, Int.reduceGE, Int.reduceEq, ↓reduceIte, reduceCtorEq, g2, g14, cq, ct]
    exact hQ _
  | false =>
    obtain ⟨rfl, rfl⟩ := m5 rfl
    simp only [go_sem, Nat.reduceEqDiff, Nat.reduceAdd, Nat.reduceMul, Nat.reduceSub, Nat.reduceLeDiff, Int.reduceBEq, Int.reduceBNe, Int.reduceLT, Int.reduceLE, Int.reduceGT, Int.reduceGE, Int.reduceEq, ↓reduceIte, reduceCtorEq, g2, g14]
    exact hQ _

theorem diskLasts_runs {w0 : World} {f s t : List UInt8} {vf vs vt : V} {arm : Int} {keep : List Int} {kt : Tok} (hf : IsBytes vf f) (hfl : f.length ≤ 1000000000000000) (hsv : IsBytes vs s) (hsl : s.length ≤ 1000000000000000) (htv : IsBytes vt t) (htl : t.length ≤ 1000000000000000)
    (ha0 : 0 ≤ arm) (ha1 : arm ≤ 255) (hkn : kt = .nil → keep = []) {S : St} {Q : AEnd → St → Prop} (hQ : ∀ S', Q (.ret (.bool true)) S') :
    RSim Try.prog w0 n_l02_DiskLasts [vf, vs, vt, .int .u8 arm, intsV keep kt] S Q := by
  have hLf := (hf.into S (fun _ => False)).len
  have hLs := (hsv.into S (fun _ => False)).len
  have hLt := (htv.into S (fun _ => False)).len
  simp only [aF, Arg.ev] at hLf hLs hLt
  have w1 : IntKind.i64.wrap ((f.length : Int) + s.length) = (f.length : Int) + s.length := w64 (by omega) (by omega)
  have w2 : IntKind.i64.wrap ((f.length : Int) + s.length + t.length) = (f.length : Int) + s.length + t.length := w64 (by omega) (by omega)
  have w3 : IntKind.i64.wrap arm = arm := w64 (by omega) (by omega)
  have w4 : arm.tmod 7 = ((arm.toNat % 7 : Nat) : Int) := u8_rem7 arm ha0 w3
  refine RSim.run mixed k_l02_DiskLasts ?_ (by simp)
  simp only [b_l02_DiskLasts, go_sem, Nat.reduceEqDiff, Nat.reduceAdd, Nat.reduceMul, Nat.reduceSub, Nat.reduceLeDiff, Int.reduceBEq, Int.reduceBNe, Int.reduceLT, Int.reduceLE, Int.reduceGT, Int.reduceGE, Int.reduceEq, ↓reduceIte, reduceCtorEq]
  refine wi_call ?_
  simp only [go_sem, Nat.reduceEqDiff, Nat.reduceAdd, Nat.reduceMul, Nat.reduceSub, Nat.reduceLeDiff, Int.reduceBEq, Int.reduceBNe, Int.reduceLT, Int.reduceLE, Int.reduceGT, Int.reduceGE, Int.reduceEq, ↓reduceIte, reduceCtorEq]
  refine diskAwake_runs fun S1 k1 => ?_
  simp only [go_sem, Nat.reduceEqDiff, Nat.reduceAdd, Nat.reduceMul, Nat.reduceSub, Nat.reduceLeDiff, Int.reduceBEq, Int.reduceBNe, Int.reduceLT, Int.reduceLE, Int.reduceGT, Int.reduceGE, Int.reduceEq, ↓reduceIte, reduceCtorEq, hLf, hLs, hLt, w1, w2]
  refine wc_ite (b := decide ((f.length : Int) + s.length + t.length > 3000)) (by simp only [go_sem, Nat.reduceEqDiff, Nat.reduceAdd, Nat.reduceMul, Nat.reduceSub, Nat.reduceLeDiff, Int.reduceBEq, Int.reduceBNe, Int.reduceLT, Int.reduceLE, Int.reduceGT, Int.reduceGE, Int.reduceEq, ↓reduceIte, reduceCtorEq]) (fun hc => ?_) (fun hc => ?_)
  · simp only [go_sem, Nat.reduceEqDiff, Nat.reduceAdd, Nat.reduceMul, Nat.reduceSub, Nat.reduceLeDiff, Int.reduceBEq, Int.reduceBNe, Int.reduceLT, Int.reduceLE, Int.reduceGT, Int.reduceGE, Int.reduceEq, ↓reduceIte, reduceCtorEq]
    refine wi_call ?_
    simp only [go_sem, Nat.reduceEqDiff, Nat.reduceAdd, Nat.reduceMul, Nat.reduceSub, Nat.reduceLeDiff, Int.reduceBEq, Int.reduceBNe, Int.reduceLT, Int.reduceLE, Int.reduceGT, Int.reduceGE, Int.reduceEq, ↓reduceIte, reduceCtorEq]
    refine diskAwake_runs fun S2 k2 => ?_
    simp only [go_sem, Nat.reduceEqDiff, Nat.reduceAdd, Nat.reduceMul, Nat.reduceSub, Nat.reduceLeDiff, Int.reduceBEq, Int.reduceBNe, Int.reduceLT, Int.reduceLE, Int.reduceGT, Int.reduceGE, Int.reduceEq, ↓reduceIte, reduceCtorEq]
    exact hQ _
  · have hp5 : f.length + s.length + t.length ≤ 3000 := by have := of_decide_eq_false hc; omega
    simp only [go_sem, Nat.reduceEqDiff, Nat.reduceAdd, Nat.reduceMul, Nat.reduceSub, Nat.reduceLeDiff, Int.reduceBEq, Int.reduceBNe, Int.reduceLT, Int.reduceLE, Int.reduceGT, Int.reduceGE, Int.reduceEq, ↓reduceIte, reduceCtorEq, r_l02_DiskLasts_3]
    refine wi_call ?_
    simp only [go_sem, Nat.reduceEqDiff, Nat.reduceAdd, Nat.reduceMul, Nat.reduceSub, Nat.reduceLeDiff, Int.reduceBEq, Int.reduceBNe, Int.reduceLT, Int.reduceLE, Int.reduceGT, Int.reduceGE, Int.reduceEq, ↓reduceIte, reduceCtorEq]
    refine new_runs (fun S2 i _ _ hi d2 k2 => ?_) (fun h => by omega)
    simp only [go_sem, Nat.reduceEqDiff, Nat.reduceAdd, Nat.reduceMul, Nat.reduceSub, Nat.reduceLeDiff, Int.reduceBEq, Int.reduceBNe, Int.reduceLT, Int.reduceLE, Int.reduceGT, Int.reduceGE, Int.reduceEq, ↓reduceIte, reduceCtorEq]
    refine wi_call ?_
    simp only [go_sem, Nat.reduceEqDiff, Nat.reduceAdd, Nat.reduceMul, Nat.reduceSub, Nat.reduceLeDiff, Int.reduceBEq, Int.reduceBNe, Int.reduceLT, Int.reduceLE, Int.reduceGT, Int.reduceGE, Int.reduceEq, ↓reduceIte, reduceCtorEq]
    refine append_runs d2 (by simp) (hf.into _ _) hfl fun S3 D3 d3 a3 k3 o3 => ?_
    have A2 : (⟨S1.n, 0, [], 10000, 0, 0, 0, false⟩ : Dk).abs = ⟨[], 10000, 0, 0, 0, false⟩ := rfl
    rw [A2, none_grow (by omega)] at a3 ⊢
    simp only [go_sem, Nat.reduceEqDiff, Nat.reduceAdd, Nat.reduceMul, Nat.reduceSub, Nat.reduceLeDiff, Int.reduceBEq, Int.reduceBNe, Int.reduceLT, Int.reduceLE, Int.reduceGT, Int.reduceGE, Int.reduceEq, ↓reduceIte, reduceCtorEq]
    refine wi_call ?_
    simp only [go_sem, Nat.reduceEqDiff, Nat.reduceAdd, Nat.reduceMul, Nat.reduceSub, Nat.reduceLeDiff, Int.reduceBEq, Int.reduceBNe, Int.reduceLT, Int.reduceLE, Int.reduceGT, Int.reduceGE, Int.reduceEq, ↓reduceIte, reduceCtorEq]
    refine sync_runs d3 (by simp) fun S4 D4 d4 a4 k4 o4 => ?_
    rw [a3, one_sync] at a4 ⊢
    have cv : ∀ S, V.conv S (.int .i64) (.int .u8 arm) = some (.int .i64 arm) := fun S => by simp only [V.conv, w3]
    simp only [go_sem, Nat.reduceEqDiff, Nat.reduceAdd, Nat.reduceMul, Nat.reduceSub, Nat.reduceLeDiff, Int.reduceBEq, Int.reduceBNe, Int.reduceLT, Int.reduceLE, Int.reduceGT, Int.reduceGE, Int.reduceEq, ↓reduceIte, reduceCtorEq, cv, w4]
    refine wi_call ?_
    simp only [go_sem, Nat.reduceEqDiff, Nat.reduceAdd, Nat.reduceMul, Nat.reduceSub, Nat.reduceLeDiff, Int.reduceBEq, Int.reduceBNe, Int.reduceLT, Int.reduceLE, Int.reduceGT, Int.reduceGE, Int.reduceEq, ↓reduceIte, reduceCtorEq]
    refine arm_runs d4 (fun S5 _ d5 k5 => ?_) (fun h => by omega)
    have A5 : ({ D4 with arm := ((arm.toNat % 7 : Nat) : Int) } : Dk).abs = ⟨[⟨[97], f, f.length⟩], 10000, 0 + (f.length : Int), 2, ((arm.toNat % 7 : Nat) : Int), false⟩ := by
      show ({ D4.abs with arm := ((arm.toNat % 7 : Nat) : Int) } : DS) = _
      rw [a4]; rfl
    have main := lasts_all f s t keep hp5 (arm.toNat % 7) (Nat.mod_lt _ (by decide))
    unfold LastsOk at main
    simp only [go_sem, Nat.reduceEqDiff, Nat.reduceAdd, Nat.reduceMul, Nat.reduceSub, Nat.reduceLeDiff, Int.reduceBEq, Int.reduceBNe, Int.reduceLT, Int.reduceLE, Int.reduceGT, Int.reduceGE, Int.reduceEq, ↓reduceIte, reduceCtorEq]
    refine wc_ite (b := false) (by simp only [go_sem, Nat.reduceEqDiff, Nat.reduceAdd, Nat.reduceMul, Nat.reduceSub, Nat.reduceLeDiff, Int.reduceBEq, Int.reduceBNe, Int.reduceLT, Int.reduceLE, Int.reduceGT, Int.reduceGE, Int.reduceEq, ↓reduceIte, reduceCtorEq] <;> rfl) (fun h => by cases h) (fun _ => ?_)
    simp only [go_sem, Nat.reduceEqDiff, Nat.reduceAdd, Nat.reduceMul, Nat.reduceSub, Nat.reduceLeDiff, Int.reduceBEq, Int.reduceBNe, Int.reduceLT, Int.reduceLE, Int.reduceGT, Int.reduceGE, Int.reduceEq, ↓reduceIte, reduceCtorEq, r_l02_DiskLasts_2]
    refine wi_call ?_
    simp only [go_sem, Nat.reduceEqDiff, Nat.reduceAdd, Nat.reduceMul, Nat.reduceSub, Nat.reduceLeDiff, Int.reduceBEq, Int.reduceBNe, Int.reduceLT, Int.reduceLE, Int.reduceGT, Int.reduceGE, Int.reduceEq, ↓reduceIte, reduceCtorEq]
    refine append_runs d5 (by simp) (hsv.into _ _) hsl fun S6 D6 d6 a6 k6 o6 => ?_
    rw [A5] at a6 ⊢
    rw [← a6] at main
    simp only [go_sem, Nat.reduceEqDiff, Nat.reduceAdd, Nat.reduceMul, Nat.reduceSub, Nat.reduceLeDiff, Int.reduceBEq, Int.reduceBNe, Int.reduceLT, Int.reduceLE, Int.reduceGT, Int.reduceGE, Int.reduceEq, ↓reduceIte, reduceCtorEq]
    refine wi_call ?_
    simp only [go_sem, Nat.reduceEqDiff, Nat.reduceAdd, Nat.reduceMul, Nat.reduceSub, Nat.reduceLeDiff, Int.reduceBEq, Int.reduceBNe, Int.reduceLT, Int.reduceLE, Int.reduceGT, Int.reduceGE, Int.reduceEq, ↓reduceIte, reduceCtorEq]
    refine put_runs d6 (by simp) (htv.into _ _) htl fun S7 D7 d7 a7 k7 o7 => ?_
    rw [← a7] at main
    simp only [go_sem, Nat.reduceEqDiff, Nat.reduceAdd, Nat.reduceMul, Nat.reduceSub, Nat.reduceLeDiff, Int.reduceBEq, Int.reduceBNe, Int.reduceLT, Int.reduceLE, Int.reduceGT, Int.reduceGE, Int.reduceEq, ↓reduceIte, reduceCtorEq]
    refine wi_call ?_
    simp only [go_sem, Nat.reduceEqDiff, Nat.reduceAdd, Nat.reduceMul, Nat.reduceSub, Nat.reduceLeDiff, Int.reduceBEq, Int.reduceBNe, Int.reduceLT, Int.reduceLE, Int.reduceGT, Int.reduceGE, Int.reduceEq, ↓reduceIte, reduceCtorEq]
    refine sync_runs d7 (by simp) fun S8 D8 d8 a8 k8 o8 => ?_
    rw [← a8] at main
    generalize (D7.abs.sync [98]).1 = e3 at main ⊢
    simp only [go_sem, Nat.reduceEqDiff, Nat.reduceAdd, Nat.reduceMul, Nat.reduceSub, Nat.reduceLeDiff, Int.reduceBEq, Int.reduceBNe, Int.reduceLT, Int.reduceLE, Int.reduceGT, Int.reduceGE, Int.reduceEq, ↓reduceIte, reduceCtorEq]
    refine wi_call ?_
    simp only [go_sem, Nat.reduceEqDiff, Nat.reduceAdd, Nat.reduceMul, Nat.reduceSub, Nat.reduceLeDiff, Int.reduceBEq, Int.reduceBNe, Int.reduceLT, Int.reduceLE, Int.reduceGT, Int.reduceGE, Int.reduceEq, ↓reduceIte, reduceCtorEq]
    refine rename_runs d8 (by simp) (by simp) fun S9 D9 d9 a9 k9 o9 => ?_
    rw [← a9] at main
    generalize (D8.abs.rename [98] [99]).1 = e4 at main ⊢
    obtain ⟨m1, m2, ⟨n, hn, m3⟩, m4, m5, m6⟩ := main
    simp only [go_sem, Nat.reduceEqDiff, Nat.reduceAdd, Nat.reduceMul, Nat.reduceSub, Nat.reduceLeDiff, Int.reduceBEq, Int.reduceBNe, Int.reduceLT, Int.reduceLE, Int.reduceGT, Int.reduceGE, Int.reduceEq, ↓reduceIte, reduceCtorEq]
    have C : ∀ sy rn : Bool, (e3 == 0) = sy → (e4 == 0) = rn → (rn && !sy) = false := fun sy rn h3 h4 => by
      cases rn with
      | false => rfl
      | true => cases sy with
        | true => rfl
        | false => exact absurd ⟨by simpa using h4, by simpa using h3⟩ m1
    generalize h3 : (e3 == 0) = sy at *
    generalize h4 : (e4 == 0) = rn at *
    have hrn : rn = true ↔ e4 = 0 := by rw [← h4]; simp
    have hsy := C sy rn rfl rfl
    have L9 : D9.ents.length ≤ 1000000000 := by
      have : D9.abs.files.length = D9.ents.length := by simp [Dk.abs]
      omega
    have m4' : rn = true → (D9.abs.restart keep).readE [99] = 0 ∧ (D9.abs.restart keep).bytes [99] = t := fun h => m4 (hrn.1 h)
    have m5' : rn = false → (D9.abs.restart keep).readE [99] = 8 ∧ (D9.abs.restart keep).bytes [99] = [] := fun h => m5 fun h' => by rw [hrn.2 h'] at h; cases h
    have step : ∀ (fr : Fr), fr 0 = vf → fr 1 = vs → fr 2 = vt → fr 11 = .ptr (some (i, 0)) → fr 14 = .bool rn → ∀ S D, DiskAt S i D → D.abs = D9.abs.restart keep → wCode (RSim Try.prog w0) r_l02_DiskLasts_1 fr S (resQ [.tmp 10] Q) := fun fr g0 g1 g2 g11 g14 S D d e => by
      rw [← e] at m2 m3 m4' m5'
      exact lasts_tail d hf hsv htv hn hp5 g0 g1 g2 g11 g14 m2 m3 m4' m5' hQ
    cases rn <;> cases sy
    · simp only [go_sem, Nat.reduceEqDiff, Nat.reduceAdd, Nat.reduceMul, Nat.reduceSub, Nat.reduceLeDiff, Int.reduceBEq, Int.reduceBNe, Int.reduceLT, Int.reduceLE, Int.reduceGT, Int.reduceGE, Int.reduceEq, ↓reduceIte, reduceCtorEq]
      refine wi_call ?_
      simp only [go_sem, Nat.reduceEqDiff, Nat.reduceAdd, Nat.reduceMul, Nat.reduceSub, Nat.reduceLeDiff, Int.reduceBEq, Int.reduceBNe, Int.reduceLT, Int.reduceLE, Int.reduceGT, Int.reduceGE, Int.reduceEq, ↓reduceIte, reduceCtorEq]
      refine restart_runs d9 L9 hkn fun S10 D10 d10 a10 k10 o10 => ?_
      simp only [go_sem, Nat.reduceEqDiff, Nat.reduceAdd, Nat.reduceMul, Nat.reduceSub, Nat.reduceLeDiff, Int.reduceBEq, Int.reduceBNe, Int.reduceLT, Int.reduceLE, Int.reduceGT, Int.reduceGE, Int.reduceEq, ↓reduceIte, reduceCtorEq]
      refine wc_ite (b := false) (by simp only [go_sem, Nat.reduceEqDiff, Nat.reduceAdd, Nat.reduceMul, Nat.reduceSub, Nat.reduceLeDiff, Int.reduceBEq, Int.reduceBNe, Int.reduceLT, Int.reduceLE, Int.reduceGT, Int.reduceGE, Int.reduceEq, ↓reduceIte, reduceCtorEq] <;> rfl) (fun h => by cases h) (fun _ => ?_)
      simp only [wc_skip, seqQ_normal]
      exact step _ (by simp only [go_sem, Nat.reduceEqDiff, Nat.reduceAdd, Nat.reduceMul, Nat.reduceSub, Nat.reduceLeDiff, Int.reduceBEq, Int.reduceBNe, Int.reduceLT, Int.reduceLE, Int.reduceGT, Int.reduceGE, Int.reduceEq, ↓reduceIte, reduceCtorEq]) (by simp only [go_sem, Nat.reduceEqDiff, Nat.reduceAdd, Nat.reduceMul, Nat.reduceSub, Nat.reduceLeDiff, Int.reduceBEq, Int.reduceBNe, Int.reduceLT, Int.reduceLE, Int.reduceGT, Int.reduceGE, Int.reduceEq, ↓reduceIte, reduceCtorEq]) (by simp only [go_sem, Nat.reduceEqDiff, Nat.reduceAdd, Nat.reduceMul, Nat.reduceSub, Nat.reduceLeDiff, Int.reduceBEq, Int.reduceBNe, Int.reduceLT, Int.reduceLE, Int.reduceGT, Int.reduceGE, Int.reduceEq, ↓reduceIte, reduceCtorEq]) (by simp only [go_sem, Nat.reduceEqDiff, Nat.reduceAdd, Nat.reduceMul, Nat.reduceSub, Nat.reduceLeDiff, Int.reduceBEq, Int.reduceBNe, Int.reduceLT, Int.reduceLE, Int.reduceGT, Int.reduceGE, Int.reduceEq, ↓reduceIte, reduceCtorEq]) (by simp only [go_sem, Nat.reduceEqDiff, Nat.reduceAdd, Nat.reduceMul, Nat.reduceSub, Nat.reduceLeDiff, Int.reduceBEq, Int.reduceBNe, Int.reduceLT, Int.reduceLE, Int.reduceGT, Int.reduceGE, Int.reduceEq, ↓reduceIte, reduceCtorEq]) _ _ d10 a10
    · simp only [go_sem, Nat.reduceEqDiff, Nat.reduceAdd, Nat.reduceMul, Nat.reduceSub, Nat.reduceLeDiff, Int.reduceBEq, Int.reduceBNe, Int.reduceLT, Int.reduceLE, Int.reduceGT, Int.reduceGE, Int.reduceEq, ↓reduceIte, reduceCtorEq]
      refine wi_call ?_
      simp only [go_sem, Nat.reduceEqDiff, Nat.reduceAdd, Nat.reduceMul, Nat.reduceSub, Nat.reduceLeDiff, Int.reduceBEq, Int.reduceBNe, Int.reduceLT, Int.reduceLE, Int.reduceGT, Int.reduceGE, Int.reduceEq, ↓reduceIte, reduceCtorEq]
      refine restart_runs d9 L9 hkn fun S10 D10 d10 a10 k10 o10 => ?_
      simp only [go_sem, Nat.reduceEqDiff, Nat.reduceAdd, Nat.reduceMul, Nat.reduceSub, Nat.reduceLeDiff, Int.reduceBEq, Int.reduceBNe, Int.reduceLT, Int.reduceLE, Int.reduceGT, Int.reduceGE, Int.reduceEq, ↓reduceIte, reduceCtorEq]
      refine wc_ite (b := false) (by simp only [go_sem, Nat.reduceEqDiff, Nat.reduceAdd, Nat.reduceMul, Nat.reduceSub, Nat.reduceLeDiff, Int.reduceBEq, Int.reduceBNe, Int.reduceLT, Int.reduceLE, Int.reduceGT, Int.reduceGE, Int.reduceEq, ↓reduceIte, reduceCtorEq] <;> rfl) (fun h => by cases h) (fun _ => ?_)
      simp only [wc_skip, seqQ_normal]
      exact step _ (by simp only [go_sem, Nat.reduceEqDiff, Nat.reduceAdd, Nat.reduceMul, Nat.reduceSub, Nat.reduceLeDiff, Int.reduceBEq, Int.reduceBNe, Int.reduceLT, Int.reduceLE, Int.reduceGT, Int.reduceGE, Int.reduceEq, ↓reduceIte, reduceCtorEq]) (by simp only [go_sem, Nat.reduceEqDiff, Nat.reduceAdd, Nat.reduceMul, Nat.reduceSub, Nat.reduceLeDiff, Int.reduceBEq, Int.reduceBNe, Int.reduceLT, Int.reduceLE, Int.reduceGT, Int.reduceGE, Int.reduceEq, ↓reduceIte, reduceCtorEq]) (by simp only [go_sem, Nat.reduceEqDiff, Nat.reduceAdd, Nat.reduceMul, Nat.reduceSub, Nat.reduceLeDiff, Int.reduceBEq, Int.reduceBNe, Int.reduceLT, Int.reduceLE, Int.reduceGT, Int.reduceGE, Int.reduceEq, ↓reduceIte, reduceCtorEq]) (by simp only [go_sem, Nat.reduceEqDiff, Nat.reduceAdd, Nat.reduceMul, Nat.reduceSub, Nat.reduceLeDiff, Int.reduceBEq, Int.reduceBNe, Int.reduceLT, Int.reduceLE, Int.reduceGT, Int.reduceGE, Int.reduceEq, ↓reduceIte, reduceCtorEq]) (by simp only [go_sem, Nat.reduceEqDiff, Nat.reduceAdd, Nat.reduceMul, Nat.reduceSub, Nat.reduceLeDiff, Int.reduceBEq, Int.reduceBNe, Int.reduceLT, Int.reduceLE, Int.reduceGT, Int.reduceGE, Int.reduceEq, ↓reduceIte, reduceCtorEq]) _ _ d10 a10
    · cases hsy
    · simp only [go_sem, Nat.reduceEqDiff, Nat.reduceAdd, Nat.reduceMul, Nat.reduceSub, Nat.reduceLeDiff, Int.reduceBEq, Int.reduceBNe, Int.reduceLT, Int.reduceLE, Int.reduceGT, Int.reduceGE, Int.reduceEq, ↓reduceIte, reduceCtorEq]
      refine wi_call ?_
      simp only [go_sem, Nat.reduceEqDiff, Nat.reduceAdd, Nat.reduceMul, Nat.reduceSub, Nat.reduceLeDiff, Int.reduceBEq, Int.reduceBNe, Int.reduceLT, Int.reduceLE, Int.reduceGT, Int.reduceGE, Int.reduceEq, ↓reduceIte, reduceCtorEq]
      refine restart_runs d9 L9 hkn fun S10 D10 d10 a10 k10 o10 => ?_
      simp only [go_sem, Nat.reduceEqDiff, Nat.reduceAdd, Nat.reduceMul, Nat.reduceSub, Nat.reduceLeDiff, Int.reduceBEq, Int.reduceBNe, Int.reduceLT, Int.reduceLE, Int.reduceGT, Int.reduceGE, Int.reduceEq, ↓reduceIte, reduceCtorEq]
      refine wc_ite (b := false) (by simp only [go_sem, Nat.reduceEqDiff, Nat.reduceAdd, Nat.reduceMul, Nat.reduceSub, Nat.reduceLeDiff, Int.reduceBEq, Int.reduceBNe, Int.reduceLT, Int.reduceLE, Int.reduceGT, Int.reduceGE, Int.reduceEq, ↓reduceIte, reduceCtorEq] <;> rfl) (fun h => by cases h) (fun _ => ?_)
      simp only [wc_skip, seqQ_normal]
      exact step _ (by simp only [go_sem, Nat.reduceEqDiff, Nat.reduceAdd, Nat.reduceMul, Nat.reduceSub, Nat.reduceLeDiff, Int.reduceBEq, Int.reduceBNe, Int.reduceLT, Int.reduceLE, Int.reduceGT, Int.reduceGE, Int.reduceEq, ↓reduceIte, reduceCtorEq]) (by simp only [go_sem, Nat.reduceEqDiff, Nat.reduceAdd, Nat.reduceMul, Nat.reduceSub, Nat.reduceLeDiff, Int.reduceBEq, Int.reduceBNe, Int.reduceLT, Int.reduceLE, Int.reduceGT, Int.reduceGE, Int.reduceEq, ↓reduceIte, reduceCtorEq]) (by simp only [go_sem, Nat.reduceEqDiff, Nat.reduceAdd, Nat.reduceMul, Nat.reduceSub, Nat.reduceLeDiff, Int.reduceBEq, Int.reduceBNe, Int.reduceLT, Int.reduceLE, Int.reduceGT, Int.reduceGE, Int.reduceEq, ↓reduceIte, reduceCtorEq]) (by simp only [go_sem, Nat.reduceEqDiff, Nat.reduceAdd, Nat.reduceMul, Nat.reduceSub, Nat.reduceLeDiff, Int.reduceBEq, Int.reduceBNe, Int.reduceLT, Int.reduceLE, Int.reduceGT, Int.reduceGE, Int.reduceEq, ↓reduceIte, reduceCtorEq]) (by simp only [go_sem, Nat.reduceEqDiff, Nat.reduceAdd, Nat.reduceMul, Nat.reduceSub, Nat.reduceLeDiff, Int.reduceBEq, Int.reduceBNe, Int.reduceLT, Int.reduceLE, Int.reduceGT, Int.reduceGE, Int.reduceEq, ↓reduceIte, reduceCtorEq]) _ _ d10 a10
end Go.VM
