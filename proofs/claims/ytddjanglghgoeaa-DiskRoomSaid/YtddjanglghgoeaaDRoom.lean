/-
  DiskRoom: the walk. NEWPP
-/
import Derived.Test.YtddjanglghgoeaaDPlays
set_option maxRecDepth 20000
set_option linter.unusedVariables false
set_option linter.unusedSimpArgs false
namespace Go.VM
open Go Go.RowKit Go.Proofs

theorem sumR_take {l : List RF} {j : Nat} {f : RF} (h : l[j]? = some f) : sumR (l.take (j + 1)) = sumR (l.take j) + f.p.length := by
  unfold sumR
  rw [List.take_add_one, h]
  simp
theorem sumR_le (l : List RF) (j : Nat) : sumR (l.take j) ≤ sumR l := by
  unfold sumR
  rw [List.map_take]
  conv => rhs; rw [← List.take_append_drop j (l.map fun f => f.p.length), List.sum_append]
  omega

theorem diskRoom_sum {w0 : World} {fr : Fr} {S : St} {K : CPost} {i x o : Nat} {D : Dk} {R : RS} {t1 : Tok} {Q' : Fr → St → Prop} (h : Both S i x o D R) (hl : D.ents.length ≤ 100000) (ht1 : t1 = .nil → D.ents = [])
    (f5 : fr 5 = .ptr (some (i, 0))) (f9 : fr 9 = strsV D.names t1) (f10 : fr 10 = .int .i64 0) (f11 : fr 11 = .int .i64 0)
    (hK : ∀ fr' S', (∀ k, k < 10 → fr' k = fr k) → fr' 10 = .int .i64 (if D.off = true then 0 else (sumR R.l : Nat)) → Keeps (fun _ => False) S S' → K .normal fr' S') :
    wCode (RSim Try.prog w0) (.loop l_l02_DiskRoom_0) fr S (blkQ 2 K) := by
  obtain ⟨hn, hu, hfit, hroom, hlen, hsz⟩ := h.facts
  have hsum := h.a.sum hn
  have hnl : D.names.length = R.l.length := by rw [← abs_names, h.a.names hn]; simp
  refine loop_rule RSim.le (k := R.l.length) (fun m fr1 S1 => ∃ j : Nat, m = R.l.length - j ∧ j ≤ R.l.length ∧ (∀ k, k < 10 → fr1 k = fr k) ∧ fr1 11 = .int .i64 j ∧ fr1 10 = .int .i64 (sumR (R.l.take j) : Nat) ∧ (D.off = true → j = 0) ∧ Keeps (fun _ => False) S S1) ?_
    ⟨0, rfl, Nat.zero_le _, fun _ _ => rfl, by rw [f11]; rfl, by rw [f10]; rfl, fun _ => rfl, Keeps.refl _ _⟩
  rintro m fr1 S1 ⟨j, hm, hj, sm, g11, g10, hoj, k1⟩
  have h1 := h.stay k1
  have g5 := (sm 5 (by omega)).trans f5
  have g9 := (sm 9 (by omega)).trans f9
  have fin : ∀ fr2 : Fr, (∀ k, k < 11 → fr2 k = fr1 k) → (D.off = false → j = R.l.length) → K .normal fr2 S1 := fun fr2 s2 hjj => by
    refine hK fr2 S1 (fun k hk => (s2 k (by omega)).trans (sm k hk)) ?_ k1
    rw [s2 10 (by omega), g10]
    cases hof : D.off with
    | true => rw [hoj hof, if_pos rfl]; rfl
    | false => rw [hjj hof, List.take_length, if_neg (by simp)]
  by_cases hlt : j < R.l.length
  · have hf : R.l[j]? = some (R.l[j]'hlt) := List.getElem?_eq_getElem hlt
    generalize R.l[j]'hlt = f at hf
    obtain ⟨q1, q2, q3, q4⟩ := h1.file hf
    have htn : (t1 = .nil) = False := eq_false fun e => by
      have : R.l.length = 0 := by rw [hlen, ht1 e]; rfl
      omega
    have hds := strs_at q1
    have hjn : (j < D.names.length) = True := eq_true (by omega)
    have hjb : decide ((j : Int) < (D.names.length : Int)) = true := decide_eq_true (by omega)
    have w1 : IntKind.i64.wrap ((j : Int) + 1) = ((j + 1 : Nat) : Int) := by rw [w64 (by omega) (by omega)]; omega
    simp only [l_l02_DiskRoom_0, go_sem, Nat.reduceEqDiff, Nat.reduceAdd, Nat.reduceMul, Nat.reduceSub, Nat.reduceLeDiff, Int.reduceBEq, Int.reduceBNe, Int.reduceLT, Int.reduceLE, Int.reduceGT, Int.reduceGE, Int.reduceEq, ↓reduceIte, reduceCtorEq, g9, g11, strsV, hjb, g5]
    refine wi_call ?_
    simp only [go_sem, Nat.reduceEqDiff, Nat.reduceAdd, Nat.reduceMul, Nat.reduceSub, Nat.reduceLeDiff, Int.reduceBEq, Int.reduceBNe, Int.reduceLT, Int.reduceLE, Int.reduceGT, Int.reduceGE, Int.reduceEq, ↓reduceIte, reduceCtorEq]
    refine on_runs h1.d ?_
    cases hof : D.off
    · have hof' : D.abs.off = false := hof
      simp only [go_sem, Nat.reduceEqDiff, Nat.reduceAdd, Nat.reduceMul, Nat.reduceSub, Nat.reduceLeDiff, Int.reduceBEq, Int.reduceBNe, Int.reduceLT, Int.reduceLE, Int.reduceGT, Int.reduceGE, Int.reduceEq, ↓reduceIte, reduceCtorEq]
      refine wc_ite (b := true) (by simp only [go_sem, Nat.reduceEqDiff, Nat.reduceAdd, Nat.reduceMul, Nat.reduceSub, Nat.reduceLeDiff, Int.reduceBEq, Int.reduceBNe, Int.reduceLT, Int.reduceLE, Int.reduceGT, Int.reduceGE, Int.reduceEq, ↓reduceIte, reduceCtorEq] <;> rfl) (fun _ => ?_) (fun h => by cases h)
      simp only [k_l02_DiskRoom_0, go_sem, Nat.reduceEqDiff, Nat.reduceAdd, Nat.reduceMul, Nat.reduceSub, Nat.reduceLeDiff, Int.reduceBEq, Int.reduceBNe, Int.reduceLT, Int.reduceLE, Int.reduceGT, Int.reduceGE, Int.reduceEq, ↓reduceIte, reduceCtorEq, g5, g9, g11, strsV, hjn, htn, hds]
      refine wi_call ?_
      simp only [go_sem, Nat.reduceEqDiff, Nat.reduceAdd, Nat.reduceMul, Nat.reduceSub, Nat.reduceLeDiff, Int.reduceBEq, Int.reduceBNe, Int.reduceLT, Int.reduceLE, Int.reduceGT, Int.reduceGE, Int.reduceEq, ↓reduceIte, reduceCtorEq]
      refine read_abs h1.d (by omega) fun S2 v2 hv2 k2 => ?_
      have e1 : D.abs.readE f.name = 0 := by unfold DS.readE; rw [q2, hof', q3]; rfl
      have e2 : D.abs.bytes f.name = f.p := by unfold DS.bytes; rw [q2, hof', q3]; rfl
      rw [e2] at hv2
      rw [e1]
      have k2' : Keeps (fun _ => False) S S2 := k1.trans k2 fun _ _ e => e
      have h2 := h.stay k2'
      have hL := (hv2.into S2 (fun _ => False)).len
      simp only [aF, Arg.ev] at hL
      have hsu : D.abs.sureOf f.name = (f.sure : Int) := by unfold DS.sureOf; rw [q3]; rfl
      have hle := hsz f (List.mem_of_getElem? hf)
      have hgt : decide ((f.sure : Int) > (f.p.length : Int)) = false := decide_eq_false (by omega)
      have hss := sumR_take hf
      have hsl := sumR_le R.l (j + 1)
      have w2 : IntKind.i64.wrap (((sumR (R.l.take j) : Nat) : Int) + (f.p.length : Int)) = ((sumR (R.l.take (j + 1)) : Nat) : Int) := by rw [w64 (by omega) (by omega)]; omega
      simp only [go_sem, Nat.reduceEqDiff, Nat.reduceAdd, Nat.reduceMul, Nat.reduceSub, Nat.reduceLeDiff, Int.reduceBEq, Int.reduceBNe, Int.reduceLT, Int.reduceLE, Int.reduceGT, Int.reduceGE, Int.reduceEq, ↓reduceIte, reduceCtorEq, g5, g9, g11, strsV, hjn, htn, hds]
      refine wi_call ?_
      simp only [go_sem, Nat.reduceEqDiff, Nat.reduceAdd, Nat.reduceMul, Nat.reduceSub, Nat.reduceLeDiff, Int.reduceBEq, Int.reduceBNe, Int.reduceLT, Int.reduceLE, Int.reduceGT, Int.reduceGE, Int.reduceEq, ↓reduceIte, reduceCtorEq]
      refine sure_abs h2.d ?_
      rw [hsu]
      simp only [go_sem, Nat.reduceEqDiff, Nat.reduceAdd, Nat.reduceMul, Nat.reduceSub, Nat.reduceLeDiff, Int.reduceBEq, Int.reduceBNe, Int.reduceLT, Int.reduceLE, Int.reduceGT, Int.reduceGE, Int.reduceEq, ↓reduceIte, reduceCtorEq, hL, hgt]
      refine wc_ite (b := false) (by simp only [go_sem, Nat.reduceEqDiff, Nat.reduceAdd, Nat.reduceMul, Nat.reduceSub, Nat.reduceLeDiff, Int.reduceBEq, Int.reduceBNe, Int.reduceLT, Int.reduceLE, Int.reduceGT, Int.reduceGE, Int.reduceEq, ↓reduceIte, reduceCtorEq] <;> rfl) (fun h => by cases h) (fun _ => ?_)
      simp only [go_sem, Nat.reduceEqDiff, Nat.reduceAdd, Nat.reduceMul, Nat.reduceSub, Nat.reduceLeDiff, Int.reduceBEq, Int.reduceBNe, Int.reduceLT, Int.reduceLE, Int.reduceGT, Int.reduceGE, Int.reduceEq, ↓reduceIte, reduceCtorEq, g10, g11, hL, w1, w2]
      refine ⟨R.l.length - (j + 1), by omega, j + 1, rfl, by omega, fun k hk => ?_, by simp only [go_sem, Nat.reduceEqDiff, Nat.reduceAdd, Nat.reduceMul, Nat.reduceSub, Nat.reduceLeDiff, Int.reduceBEq, Int.reduceBNe, Int.reduceLT, Int.reduceLE, Int.reduceGT, Int.reduceGE, Int.reduceEq, ↓reduceIte, reduceCtorEq], by simp only [go_sem, Nat.reduceEqDiff, Nat.reduceAdd, Nat.reduceMul, Nat.reduceSub, Nat.reduceLeDiff, Int.reduceBEq, Int.reduceBNe, Int.reduceLT, Int.reduceLE, Int.reduceGT, Int.reduceGE, Int.reduceEq, ↓reduceIte, reduceCtorEq], fun e => e.elim, k2'⟩
      try simp only [put_some]
      repeat rw [if_neg (by omega)]
      exact sm k hk
    · simp only [go_sem, Nat.reduceEqDiff, Nat.reduceAdd, Nat.reduceMul, Nat.reduceSub, Nat.reduceLeDiff, Int.reduceBEq, Int.reduceBNe, Int.reduceLT, Int.reduceLE, Int.reduceGT, Int.reduceGE, Int.reduceEq, ↓reduceIte, reduceCtorEq]
      refine wc_ite (b := false) (by simp only [go_sem, Nat.reduceEqDiff, Nat.reduceAdd, Nat.reduceMul, Nat.reduceSub, Nat.reduceLeDiff, Int.reduceBEq, Int.reduceBNe, Int.reduceLT, Int.reduceLE, Int.reduceGT, Int.reduceGE, Int.reduceEq, ↓reduceIte, reduceCtorEq] <;> rfl) (fun h => by cases h) (fun _ => ?_)
      simp only [go_sem, Nat.reduceEqDiff, Nat.reduceAdd, Nat.reduceMul, Nat.reduceSub, Nat.reduceLeDiff, Int.reduceBEq, Int.reduceBNe, Int.reduceLT, Int.reduceLE, Int.reduceGT, Int.reduceGE, Int.reduceEq, ↓reduceIte, reduceCtorEq]
      refine fin _ (fun k hk => ?_) fun e => by rw [hof] at e; cases e
      simp only [put_some]
      repeat rw [if_neg (by omega)]
  · have hjb : decide ((j : Int) < (D.names.length : Int)) = false := decide_eq_false (by omega)
    simp only [l_l02_DiskRoom_0, go_sem, Nat.reduceEqDiff, Nat.reduceAdd, Nat.reduceMul, Nat.reduceSub, Nat.reduceLeDiff, Int.reduceBEq, Int.reduceBNe, Int.reduceLT, Int.reduceLE, Int.reduceGT, Int.reduceGE, Int.reduceEq, ↓reduceIte, reduceCtorEq, g9, g11, strsV, hjb]
    refine wc_ite (b := false) (by simp only [go_sem, Nat.reduceEqDiff, Nat.reduceAdd, Nat.reduceMul, Nat.reduceSub, Nat.reduceLeDiff, Int.reduceBEq, Int.reduceBNe, Int.reduceLT, Int.reduceLE, Int.reduceGT, Int.reduceGE, Int.reduceEq, ↓reduceIte, reduceCtorEq] <;> rfl) (fun h => by cases h) (fun _ => ?_)
    simp only [go_sem, Nat.reduceEqDiff, Nat.reduceAdd, Nat.reduceMul, Nat.reduceSub, Nat.reduceLeDiff, Int.reduceBEq, Int.reduceBNe, Int.reduceLT, Int.reduceLE, Int.reduceGT, Int.reduceGE, Int.reduceEq, ↓reduceIte, reduceCtorEq]
    refine fin _ (fun k hk => ?_) fun _ => by omega
    simp only [put_some]
    repeat rw [if_neg (by omega)]

theorem diskRoom_runs {w0 : World} {n : Nat} (hn8 : n ≤ 255) {l : List DAct} {v1 : V} {t : Tok} (hl : IsSlice DActR 6 v1 l t) (hs : ∀ a ∈ l, a.Small) {S : St} {Q : AEnd → St → Prop} (hQ : ∀ S', Q (.ret (.bool true)) S') :
    RSim Try.prog w0 n_l02_DiskRoom [.int .u8 n, v1] S Q := by
  obtain ⟨cs, rfl⟩ := hl.len
  have cn := u8_int n (by omega)
  refine RSim.run mixed k_l02_DiskRoom ?_ (by simp)
  simp only [b_l02_DiskRoom, go_sem, Nat.reduceEqDiff, Nat.reduceAdd, Nat.reduceMul, Nat.reduceSub, Nat.reduceLeDiff, Int.reduceBEq, Int.reduceBNe, Int.reduceLT, Int.reduceLE, Int.reduceGT, Int.reduceGE, Int.reduceEq, ↓reduceIte, reduceCtorEq]
  refine wi_call ?_
  simp only [go_sem, Nat.reduceEqDiff, Nat.reduceAdd, Nat.reduceMul, Nat.reduceSub, Nat.reduceLeDiff, Int.reduceBEq, Int.reduceBNe, Int.reduceLT, Int.reduceLE, Int.reduceGT, Int.reduceGE, Int.reduceEq, ↓reduceIte, reduceCtorEq]
  refine diskAwake_runs fun S0 k0 => ?_
  simp only [go_sem, Nat.reduceEqDiff, Nat.reduceAdd, Nat.reduceMul, Nat.reduceSub, Nat.reduceLeDiff, Int.reduceBEq, Int.reduceBNe, Int.reduceLT, Int.reduceLE, Int.reduceGT, Int.reduceGE, Int.reduceEq, ↓reduceIte, reduceCtorEq]
  refine wc_ite (b := false) (by simp only [go_sem, Nat.reduceEqDiff, Nat.reduceAdd, Nat.reduceMul, Nat.reduceSub, Nat.reduceLeDiff, Int.reduceBEq, Int.reduceBNe, Int.reduceLT, Int.reduceLE, Int.reduceGT, Int.reduceGE, Int.reduceEq, ↓reduceIte, reduceCtorEq] <;> rfl) (fun h => by cases h) (fun _ => ?_)
  simp only [go_sem, Nat.reduceEqDiff, Nat.reduceAdd, Nat.reduceMul, Nat.reduceSub, Nat.reduceLeDiff, Int.reduceBEq, Int.reduceBNe, Int.reduceLT, Int.reduceLE, Int.reduceGT, Int.reduceGE, Int.reduceEq, ↓reduceIte, reduceCtorEq, cn]
  refine wi_call ?_
  simp only [go_sem, Nat.reduceEqDiff, Nat.reduceAdd, Nat.reduceMul, Nat.reduceSub, Nat.reduceLeDiff, Int.reduceBEq, Int.reduceBNe, Int.reduceLT, Int.reduceLE, Int.reduceGT, Int.reduceGE, Int.reduceEq, ↓reduceIte, reduceCtorEq]
  refine new_runs (fun S1 i h0 hm hi d1 k1 => ?_) (fun hbad => by omega)
  simp only [go_sem, Nat.reduceEqDiff, Nat.reduceAdd, Nat.reduceMul, Nat.reduceSub, Nat.reduceLeDiff, Int.reduceBEq, Int.reduceBNe, Int.reduceLT, Int.reduceLE, Int.reduceGT, Int.reduceGE, Int.reduceEq, ↓reduceIte, reduceCtorEq]
  refine wc_ite (b := false) (by simp only [go_sem, Nat.reduceEqDiff, Nat.reduceAdd, Nat.reduceMul, Nat.reduceSub, Nat.reduceLeDiff, Int.reduceBEq, Int.reduceBNe, Int.reduceLT, Int.reduceLE, Int.reduceGT, Int.reduceGE, Int.reduceEq, ↓reduceIte, reduceCtorEq] <;> rfl) (fun h => by cases h) (fun _ => ?_)
  simp only [go_sem, Nat.reduceEqDiff, Nat.reduceAdd, Nat.reduceMul, Nat.reduceSub, Nat.reduceLeDiff, Int.reduceBEq, Int.reduceBNe, Int.reduceLT, Int.reduceLE, Int.reduceGT, Int.reduceGE, Int.reduceEq, ↓reduceIte, reduceCtorEq, cn]
  generalize hS2 : S1.add (.cells [.sl [] 0 3 .nil, .int .i64 (n : Int), .int .i64 0, .bool false, .int .i64 0]) = S2
  have k2 : Keeps (fun _ => False) S1 S2 := hS2 ▸ (Keeps.refl _ S1).add _
  have r2 : RefAt S2 S1.n 0 ⟨[], n, 0, false, 0⟩ := ⟨by rw [← hS2, cells_addc, if_pos rfl]; rfl, by rw [← hS2]; simp [St.add_n], fun e => absurd rfl e, fun e => absurd rfl e, fun e => absurd rfl e, fun f hf => by cases hf⟩
  have b2 : Both S2 i S1.n 0 ⟨S0.n, 0, [], n, 0, 0, 0, false⟩ ⟨[], n, 0, false, 0⟩ := ⟨d1.stay k2, r2, ⟨fun z => Iff.rfl, List.Pairwise.nil, rfl, rfl, rfl, rfl⟩, fun j hj hr => by
    have h1 := d1.own_lt hj
    rcases hr with rfl | ⟨e, _⟩
    · omega
    · exact e rfl⟩
  refine loop_rule RSim.le (k := 100) (fun m fr S3 => ∃ (j o : Nat) (D : Dk) (R : RS), m = 100 - j ∧ j ≤ 100 ∧ fr 0 = .int .u8 n ∧ fr 1 = .sl cs l.length 6 t ∧ fr 5 = .ptr (some (i, 0)) ∧ fr 7 = .ptr (some (S1.n, 0)) ∧ fr 8 = .int .i64 j ∧ Both S3 i S1.n o D R ∧ D.ents.length ≤ j ∧ D.room = n) ?_
    ⟨0, 0, _, _, rfl, by omega, by simp only [go_sem, Nat.reduceEqDiff, Nat.reduceAdd, Nat.reduceMul, Nat.reduceSub, Nat.reduceLeDiff, Int.reduceBEq, Int.reduceBNe, Int.reduceLT, Int.reduceLE, Int.reduceGT, Int.reduceGE, Int.reduceEq, ↓reduceIte, reduceCtorEq], by simp only [go_sem, Nat.reduceEqDiff, Nat.reduceAdd, Nat.reduceMul, Nat.reduceSub, Nat.reduceLeDiff, Int.reduceBEq, Int.reduceBNe, Int.reduceLT, Int.reduceLE, Int.reduceGT, Int.reduceGE, Int.reduceEq, ↓reduceIte, reduceCtorEq], by simp only [go_sem, Nat.reduceEqDiff, Nat.reduceAdd, Nat.reduceMul, Nat.reduceSub, Nat.reduceLeDiff, Int.reduceBEq, Int.reduceBNe, Int.reduceLT, Int.reduceLE, Int.reduceGT, Int.reduceGE, Int.reduceEq, ↓reduceIte, reduceCtorEq], by simp only [go_sem, Nat.reduceEqDiff, Nat.reduceAdd, Nat.reduceMul, Nat.reduceSub, Nat.reduceLeDiff, Int.reduceBEq, Int.reduceBNe, Int.reduceLT, Int.reduceLE, Int.reduceGT, Int.reduceGE, Int.reduceEq, ↓reduceIte, reduceCtorEq], by simp only [go_sem, Nat.reduceEqDiff, Nat.reduceAdd, Nat.reduceMul, Nat.reduceSub, Nat.reduceLeDiff, Int.reduceBEq, Int.reduceBNe, Int.reduceLT, Int.reduceLE, Int.reduceGT, Int.reduceGE, Int.reduceEq, ↓reduceIte, reduceCtorEq]; rfl, b2, Nat.le_refl _, rfl⟩
  rintro m fr S3 ⟨j, o, D, R, hm', hj, f0, f1, f5, f7, f8, b3, hne, hrm⟩
  have w1 : ∀ q : Nat, q < 1000 → IntKind.i64.wrap ((q : Int) + 1) = ((q + 1 : Nat) : Int) := fun q hq => by rw [w64 (by omega) (by omega)]; omega
  simp only [l_l02_DiskRoom_1, go_sem, Nat.reduceEqDiff, Nat.reduceAdd, Nat.reduceMul, Nat.reduceSub, Nat.reduceLeDiff, Int.reduceBEq, Int.reduceBNe, Int.reduceLT, Int.reduceLE, Int.reduceGT, Int.reduceGE, Int.reduceEq, ↓reduceIte, reduceCtorEq, f1, f8]
  by_cases hc1 : j < l.length ∧ j < 100
  · obtain ⟨hjl, hj1⟩ := hc1
    have q1 : decide ((j : Int) < l.length) = true := decide_eq_true (by omega)
    have q2 : decide ((j : Int) < 100) = true := decide_eq_true (by omega)
    simp only [go_sem, Nat.reduceEqDiff, Nat.reduceAdd, Nat.reduceMul, Nat.reduceSub, Nat.reduceLeDiff, Int.reduceBEq, Int.reduceBNe, Int.reduceLT, Int.reduceLE, Int.reduceGT, Int.reduceGE, Int.reduceEq, ↓reduceIte, reduceCtorEq, q1, q2, f8]
    refine wc_ite (b := true) (by simp only [go_sem, Nat.reduceEqDiff, Nat.reduceAdd, Nat.reduceMul, Nat.reduceSub, Nat.reduceLeDiff, Int.reduceBEq, Int.reduceBNe, Int.reduceLT, Int.reduceLE, Int.reduceGT, Int.reduceGE, Int.reduceEq, ↓reduceIte, reduceCtorEq] <;> rfl) (fun _ => ?_) (fun h => by cases h)
    obtain ⟨cs', c, ecs, htn, _, hle, htk, hcl, hR⟩ := hl.at2 (List.getElem?_eq_getElem hjl)
    injection ecs with ecs
    subst ecs
    generalize ha : l[j]'hjl = a at *
    have hsm := hs a (by rw [← ha]; exact List.getElem_mem _)
    simp only [go_sem, Nat.reduceEqDiff, Nat.reduceAdd, Nat.reduceMul, Nat.reduceSub, Nat.reduceLeDiff, Int.reduceBEq, Int.reduceBNe, Int.reduceLT, Int.reduceLE, Int.reduceGT, Int.reduceGE, Int.reduceEq, ↓reduceIte, reduceCtorEq, f1, f5, f7, f8, hjl, htn, hle, htk]
    refine wi_call ?_
    simp only [go_sem, Nat.reduceEqDiff, Nat.reduceAdd, Nat.reduceMul, Nat.reduceSub, Nat.reduceLeDiff, Int.reduceBEq, Int.reduceBNe, Int.reduceLT, Int.reduceLE, Int.reduceGT, Int.reduceGE, Int.reduceEq, ↓reduceIte, reduceCtorEq]
    refine do_runs b3 (by omega) hR hsm fun S4 o4 D4 R4 A4 hl4 hr4 hn4 => ?_
    obtain ⟨hn, hu, hfit, hroom, hlen, hsz⟩ := A4.b.facts
    have hsum := A4.b.a.sum hn
    simp only [go_sem, Nat.reduceEqDiff, Nat.reduceAdd, Nat.reduceMul, Nat.reduceSub, Nat.reduceLeDiff, Int.reduceBEq, Int.reduceBNe, Int.reduceLT, Int.reduceLE, Int.reduceGT, Int.reduceGE, Int.reduceEq, ↓reduceIte, reduceCtorEq, f5]
    refine wi_call ?_
    simp only [go_sem, Nat.reduceEqDiff, Nat.reduceAdd, Nat.reduceMul, Nat.reduceSub, Nat.reduceLeDiff, Int.reduceBEq, Int.reduceBNe, Int.reduceLT, Int.reduceLE, Int.reduceGT, Int.reduceGE, Int.reduceEq, ↓reduceIte, reduceCtorEq]
    refine names_runs A4.b.d (by omega) fun S5 t5 ht5 ht5' k5 => ?_
    simp only [go_sem, Nat.reduceEqDiff, Nat.reduceAdd, Nat.reduceMul, Nat.reduceSub, Nat.reduceLeDiff, Int.reduceBEq, Int.reduceBNe, Int.reduceLT, Int.reduceLE, Int.reduceGT, Int.reduceGE, Int.reduceEq, ↓reduceIte, reduceCtorEq]
    refine diskRoom_sum (Q' := fun _ _ => True) (A4.b.stay k5) (by omega) ht5 (by simp only [go_sem, Nat.reduceEqDiff, Nat.reduceAdd, Nat.reduceMul, Nat.reduceSub, Nat.reduceLeDiff, Int.reduceBEq, Int.reduceBNe, Int.reduceLT, Int.reduceLE, Int.reduceGT, Int.reduceGE, Int.reduceEq, ↓reduceIte, reduceCtorEq, f5]) (by simp only [go_sem, Nat.reduceEqDiff, Nat.reduceAdd, Nat.reduceMul, Nat.reduceSub, Nat.reduceLeDiff, Int.reduceBEq, Int.reduceBNe, Int.reduceLT, Int.reduceLE, Int.reduceGT, Int.reduceGE, Int.reduceEq, ↓reduceIte, reduceCtorEq]) (by simp only [go_sem, Nat.reduceEqDiff, Nat.reduceAdd, Nat.reduceMul, Nat.reduceSub, Nat.reduceLeDiff, Int.reduceBEq, Int.reduceBNe, Int.reduceLT, Int.reduceLE, Int.reduceGT, Int.reduceGE, Int.reduceEq, ↓reduceIte, reduceCtorEq]) (by simp only [go_sem, Nat.reduceEqDiff, Nat.reduceAdd, Nat.reduceMul, Nat.reduceSub, Nat.reduceLeDiff, Int.reduceBEq, Int.reduceBNe, Int.reduceLT, Int.reduceLE, Int.reduceGT, Int.reduceGE, Int.reduceEq, ↓reduceIte, reduceCtorEq]) fun fr' S6 sm h10 k6 => ?_
    have b6 := (A4.b.stay k5).stay k6
    have g0 := sm 0 (by omega)
    have g1 := sm 1 (by omega)
    have g5 := sm 5 (by omega)
    have g7 := sm 7 (by omega)
    have g8 := sm 8 (by omega)
    simp only [go_sem, Nat.reduceEqDiff, Nat.reduceAdd, Nat.reduceMul, Nat.reduceSub, Nat.reduceLeDiff, Int.reduceBEq, Int.reduceBNe, Int.reduceLT, Int.reduceLE, Int.reduceGT, Int.reduceGE, Int.reduceEq, ↓reduceIte, reduceCtorEq, f0, f1, f5, f7, f8] at g0 g1 g5 g7 g8
    have hus : D4.used = (sumFl D4.abs.files : Nat) := hu
    have hle : decide (D4.used > (n : Int)) = false := decide_eq_false (by have h1 : D4.used ≤ D4.room := hfit; rw [hr4, hrm] at h1; omega)
    simp only [s_l02_DiskRoom_0, go_sem, Nat.reduceEqDiff, Nat.reduceAdd, Nat.reduceMul, Nat.reduceSub, Nat.reduceLeDiff, Int.reduceBEq, Int.reduceBNe, Int.reduceLT, Int.reduceLE, Int.reduceGT, Int.reduceGE, Int.reduceEq, ↓reduceIte, reduceCtorEq, g5]
    refine wi_call ?_
    simp only [go_sem, Nat.reduceEqDiff, Nat.reduceAdd, Nat.reduceMul, Nat.reduceSub, Nat.reduceLeDiff, Int.reduceBEq, Int.reduceBNe, Int.reduceLT, Int.reduceLE, Int.reduceGT, Int.reduceGE, Int.reduceEq, ↓reduceIte, reduceCtorEq]
    refine used_runs b6.d ?_
    simp only [go_sem, Nat.reduceEqDiff, Nat.reduceAdd, Nat.reduceMul, Nat.reduceSub, Nat.reduceLeDiff, Int.reduceBEq, Int.reduceBNe, Int.reduceLT, Int.reduceLE, Int.reduceGT, Int.reduceGE, Int.reduceEq, ↓reduceIte, reduceCtorEq, g0, g5, cn, hle]
    refine wi_call ?_
    simp only [go_sem, Nat.reduceEqDiff, Nat.reduceAdd, Nat.reduceMul, Nat.reduceSub, Nat.reduceLeDiff, Int.reduceBEq, Int.reduceBNe, Int.reduceLT, Int.reduceLE, Int.reduceGT, Int.reduceGE, Int.reduceEq, ↓reduceIte, reduceCtorEq]
    refine on_runs b6.d ?_
    cases hof : D4.off
    · rw [hof] at h10
      simp only [Bool.false_eq_true, if_false] at h10
      have hsb : ((sumR R4.l : Nat) != D4.used) = false := by rw [hsum, hus]; simp
      simp only [go_sem, Nat.reduceEqDiff, Nat.reduceAdd, Nat.reduceMul, Nat.reduceSub, Nat.reduceLeDiff, Int.reduceBEq, Int.reduceBNe, Int.reduceLT, Int.reduceLE, Int.reduceGT, Int.reduceGE, Int.reduceEq, ↓reduceIte, reduceCtorEq, h10, g5]
      refine wi_call ?_
      simp only [go_sem, Nat.reduceEqDiff, Nat.reduceAdd, Nat.reduceMul, Nat.reduceSub, Nat.reduceLeDiff, Int.reduceBEq, Int.reduceBNe, Int.reduceLT, Int.reduceLE, Int.reduceGT, Int.reduceGE, Int.reduceEq, ↓reduceIte, reduceCtorEq]
      refine used_runs b6.d ?_
      simp only [go_sem, Nat.reduceEqDiff, Nat.reduceAdd, Nat.reduceMul, Nat.reduceSub, Nat.reduceLeDiff, Int.reduceBEq, Int.reduceBNe, Int.reduceLT, Int.reduceLE, Int.reduceGT, Int.reduceGE, Int.reduceEq, ↓reduceIte, reduceCtorEq, hsb]
      refine wc_ite (b := false) (by simp only [go_sem, Nat.reduceEqDiff, Nat.reduceAdd, Nat.reduceMul, Nat.reduceSub, Nat.reduceLeDiff, Int.reduceBEq, Int.reduceBNe, Int.reduceLT, Int.reduceLE, Int.reduceGT, Int.reduceGE, Int.reduceEq, ↓reduceIte, reduceCtorEq] <;> rfl) (fun h => by cases h) (fun _ => ?_)
      simp only [go_sem, Nat.reduceEqDiff, Nat.reduceAdd, Nat.reduceMul, Nat.reduceSub, Nat.reduceLeDiff, Int.reduceBEq, Int.reduceBNe, Int.reduceLT, Int.reduceLE, Int.reduceGT, Int.reduceGE, Int.reduceEq, ↓reduceIte, reduceCtorEq, g8, w1 j (by omega)]
      exact ⟨100 - (j + 1), by omega, j + 1, o4, D4, R4, rfl, by omega, by simp only [go_sem, Nat.reduceEqDiff, Nat.reduceAdd, Nat.reduceMul, Nat.reduceSub, Nat.reduceLeDiff, Int.reduceBEq, Int.reduceBNe, Int.reduceLT, Int.reduceLE, Int.reduceGT, Int.reduceGE, Int.reduceEq, ↓reduceIte, reduceCtorEq, g0], by simp only [go_sem, Nat.reduceEqDiff, Nat.reduceAdd, Nat.reduceMul, Nat.reduceSub, Nat.reduceLeDiff, Int.reduceBEq, Int.reduceBNe, Int.reduceLT, Int.reduceLE, Int.reduceGT, Int.reduceGE, Int.reduceEq, ↓reduceIte, reduceCtorEq, g1], by simp only [go_sem, Nat.reduceEqDiff, Nat.reduceAdd, Nat.reduceMul, Nat.reduceSub, Nat.reduceLeDiff, Int.reduceBEq, Int.reduceBNe, Int.reduceLT, Int.reduceLE, Int.reduceGT, Int.reduceGE, Int.reduceEq, ↓reduceIte, reduceCtorEq, g5], by simp only [go_sem, Nat.reduceEqDiff, Nat.reduceAdd, Nat.reduceMul, Nat.reduceSub, Nat.reduceLeDiff, Int.reduceBEq, Int.reduceBNe, Int.reduceLT, Int.reduceLE, Int.reduceGT, Int.reduceGE, Int.reduceEq, ↓reduceIte, reduceCtorEq, g7], by simp only [go_sem, Nat.reduceEqDiff, Nat.reduceAdd, Nat.reduceMul, Nat.reduceSub, Nat.reduceLeDiff, Int.reduceBEq, Int.reduceBNe, Int.reduceLT, Int.reduceLE, Int.reduceGT, Int.reduceGE, Int.reduceEq, ↓reduceIte, reduceCtorEq], b6, by omega, hr4.trans hrm⟩
    · simp only [go_sem, Nat.reduceEqDiff, Nat.reduceAdd, Nat.reduceMul, Nat.reduceSub, Nat.reduceLeDiff, Int.reduceBEq, Int.reduceBNe, Int.reduceLT, Int.reduceLE, Int.reduceGT, Int.reduceGE, Int.reduceEq, ↓reduceIte, reduceCtorEq]
      refine wc_ite (b := false) (by simp only [go_sem, Nat.reduceEqDiff, Nat.reduceAdd, Nat.reduceMul, Nat.reduceSub, Nat.reduceLeDiff, Int.reduceBEq, Int.reduceBNe, Int.reduceLT, Int.reduceLE, Int.reduceGT, Int.reduceGE, Int.reduceEq, ↓reduceIte, reduceCtorEq] <;> rfl) (fun h => by cases h) (fun _ => ?_)
      simp only [go_sem, Nat.reduceEqDiff, Nat.reduceAdd, Nat.reduceMul, Nat.reduceSub, Nat.reduceLeDiff, Int.reduceBEq, Int.reduceBNe, Int.reduceLT, Int.reduceLE, Int.reduceGT, Int.reduceGE, Int.reduceEq, ↓reduceIte, reduceCtorEq, g8, w1 j (by omega)]
      exact ⟨100 - (j + 1), by omega, j + 1, o4, D4, R4, rfl, by omega, by simp only [go_sem, Nat.reduceEqDiff, Nat.reduceAdd, Nat.reduceMul, Nat.reduceSub, Nat.reduceLeDiff, Int.reduceBEq, Int.reduceBNe, Int.reduceLT, Int.reduceLE, Int.reduceGT, Int.reduceGE, Int.reduceEq, ↓reduceIte, reduceCtorEq, g0], by simp only [go_sem, Nat.reduceEqDiff, Nat.reduceAdd, Nat.reduceMul, Nat.reduceSub, Nat.reduceLeDiff, Int.reduceBEq, Int.reduceBNe, Int.reduceLT, Int.reduceLE, Int.reduceGT, Int.reduceGE, Int.reduceEq, ↓reduceIte, reduceCtorEq, g1], by simp only [go_sem, Nat.reduceEqDiff, Nat.reduceAdd, Nat.reduceMul, Nat.reduceSub, Nat.reduceLeDiff, Int.reduceBEq, Int.reduceBNe, Int.reduceLT, Int.reduceLE, Int.reduceGT, Int.reduceGE, Int.reduceEq, ↓reduceIte, reduceCtorEq, g5], by simp only [go_sem, Nat.reduceEqDiff, Nat.reduceAdd, Nat.reduceMul, Nat.reduceSub, Nat.reduceLeDiff, Int.reduceBEq, Int.reduceBNe, Int.reduceLT, Int.reduceLE, Int.reduceGT, Int.reduceGE, Int.reduceEq, ↓reduceIte, reduceCtorEq, g7], by simp only [go_sem, Nat.reduceEqDiff, Nat.reduceAdd, Nat.reduceMul, Nat.reduceSub, Nat.reduceLeDiff, Int.reduceBEq, Int.reduceBNe, Int.reduceLT, Int.reduceLE, Int.reduceGT, Int.reduceGE, Int.reduceEq, ↓reduceIte, reduceCtorEq], b6, by omega, hr4.trans hrm⟩
  · have e12 : (decide ((j : Int) < l.length) && decide ((j : Int) < 100)) = false := by
      rw [Bool.and_eq_false_iff]
      by_cases h1 : j < l.length
      · exact .inr (decide_eq_false (by omega))
      · exact .inl (decide_eq_false (by omega))
    cases e1 : decide ((j : Int) < l.length) with
    | false =>
      simp only [go_sem, Nat.reduceEqDiff, Nat.reduceAdd, Nat.reduceMul, Nat.reduceSub, Nat.reduceLeDiff, Int.reduceBEq, Int.reduceBNe, Int.reduceLT, Int.reduceLE, Int.reduceGT, Int.reduceGE, Int.reduceEq, ↓reduceIte, reduceCtorEq, e1, f8]
      refine wc_ite (b := false) (by simp only [go_sem, Nat.reduceEqDiff, Nat.reduceAdd, Nat.reduceMul, Nat.reduceSub, Nat.reduceLeDiff, Int.reduceBEq, Int.reduceBNe, Int.reduceLT, Int.reduceLE, Int.reduceGT, Int.reduceGE, Int.reduceEq, ↓reduceIte, reduceCtorEq] <;> rfl) (fun h => by cases h) (fun _ => ?_)
      simp only [go_sem, Nat.reduceEqDiff, Nat.reduceAdd, Nat.reduceMul, Nat.reduceSub, Nat.reduceLeDiff, Int.reduceBEq, Int.reduceBNe, Int.reduceLT, Int.reduceLE, Int.reduceGT, Int.reduceGE, Int.reduceEq, ↓reduceIte, reduceCtorEq]
      exact hQ _
    | true =>
      rw [e1, Bool.true_and] at e12
      simp only [go_sem, Nat.reduceEqDiff, Nat.reduceAdd, Nat.reduceMul, Nat.reduceSub, Nat.reduceLeDiff, Int.reduceBEq, Int.reduceBNe, Int.reduceLT, Int.reduceLE, Int.reduceGT, Int.reduceGE, Int.reduceEq, ↓reduceIte, reduceCtorEq, e1, e12, f8]
      refine wc_ite (b := false) (by simp only [go_sem, Nat.reduceEqDiff, Nat.reduceAdd, Nat.reduceMul, Nat.reduceSub, Nat.reduceLeDiff, Int.reduceBEq, Int.reduceBNe, Int.reduceLT, Int.reduceLE, Int.reduceGT, Int.reduceGE, Int.reduceEq, ↓reduceIte, reduceCtorEq] <;> rfl) (fun h => by cases h) (fun _ => ?_)
      simp only [go_sem, Nat.reduceEqDiff, Nat.reduceAdd, Nat.reduceMul, Nat.reduceSub, Nat.reduceLeDiff, Int.reduceBEq, Int.reduceBNe, Int.reduceLT, Int.reduceLE, Int.reduceGT, Int.reduceGE, Int.reduceEq, ↓reduceIte, reduceCtorEq]
      exact hQ _
end Go.VM
