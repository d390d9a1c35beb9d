/-
  WalCuts. NEWPP
-/
import Derived.Test.YtddjanglghgoeaaWScans
set_option maxRecDepth 20000
set_option linter.unusedVariables false
set_option linter.unusedSimpArgs false
namespace Go.VM
open Go Go.RowKit Go.Proofs

theorem readF_take {l q : List UInt8} {k : Nat} (h : readF l = .inr (q, k)) : frameB q = l.take k ∧ k ≤ l.length := by
  unfold readF at h
  split at h
  · cases h
  · rename_i b l
    split at h
    · cases h
    · rename_i n kk hr
      split at h
      · cases h
      · rename_i hno
        split at h
        · cases h
        · rename_i hsum
          injection h with h; injection h with h1 h2
          have hb : b = 0xf1 := Decidable.not_not.1 fun h => hno (.inl h)
          have hlen : kk + 5 + n ≤ l.length := by
            have : ¬ l.length < kk + 5 + n := fun h => hno (.inr (.inr (.inl h)))
            omega
          have h1f : l[kk + 4 + n]? = some 0x1f := Decidable.not_not.1 fun h => hno (.inr (.inr (.inr h)))
          have hsum' : (l.drop kk).take 4 = fourB (sumN ((l.drop (kk + 4)).take n)) := Decidable.not_not.1 hsum
          obtain ⟨y, hy1, hy2, hy3, _, _⟩ := ruv_canon (by decide) hr
          have hy1 : n = y := by simpa using hy1
          have hy2 : kk = (uvar y).length := by simpa using hy2
          subst hy1
          have hql : q.length = n := by rw [← h1, List.length_take, List.length_drop]; omega
          rw [h1] at hsum'
          have e1 : l.take kk = uvar n := by rw [hy2]; exact hy3
          have e : l.take (kk + 5 + n) = uvar n ++ fourB (sumN q) ++ q ++ [0x1f] := by
            rw [show kk + 5 + n = kk + (4 + (n + 1)) by omega, List.take_add, e1, List.take_add, hsum', List.drop_drop, take_snoc (r := 0x1f) (by rw [List.getElem?_drop]; exact h1f), h1]
            simp only [List.append_assoc]
          subst h2
          refine ⟨?_, by rw [List.length_cons]; omega⟩
          rw [show kk + 6 + n = (kk + 5 + n) + 1 by omega, List.take_succ_cons, e, hb]
          unfold frameB
          rw [hql]
theorem scans_take {l : List UInt8} {L : List (List UInt8)} {n : Nat} (h : Scans l L n) : fileB L = l.take n ∧ n ≤ l.length := by
  induction h with
  | stop _ => simp [fileB]
  | @step l q k n L h r ih =>
    obtain ⟨h1, h2⟩ := readF_take h
    obtain ⟨h3, h4⟩ := ih
    rw [List.length_drop] at h4
    refine ⟨?_, by omega⟩
    have e : fileB (q :: L) = frameB q ++ fileB L := by simp [fileB]
    rw [e, h1, h3, ← List.take_add]
theorem scans_ex : ∀ (m : Nat) (l : List UInt8), l.length ≤ m → ∃ L n, Scans l L n := by
  intro m
  induction m with
  | zero =>
    intro l hl
    have : l = [] := List.eq_nil_of_length_eq_zero (by omega)
    subst this
    exact ⟨[], 0, scans_nil⟩
  | succ m ih =>
    intro l hl
    cases h : readF l with
    | inl e => exact ⟨[], 0, .stop h⟩
    | inr x =>
      obtain ⟨q, k⟩ := x
      have h1 := readF_pos h
      have h2 := (readF_take h).2
      obtain ⟨L, n, h3⟩ := ih (l.drop k) (by rw [List.length_drop]; omega)
      exact ⟨q :: L, k + n, .step h h3⟩

theorem log_grow {q : List UInt8} {room ops : Int} (h : (q.length : Int) ≤ room) : (⟨[], room, 0, ops, 0, false⟩ : DS).grow [108, 111, 103] q false = (0, ⟨[⟨[108, 111, 103], q, 0⟩], room, 0 + q.length, IntKind.i64.wrap (ops + 1), 0, false⟩) := by
  rw [grow_done (by decide) rfl (by simp) (by simp only; omega)]
  rfl
theorem log_sync {p : List UInt8} {sure : Nat} {room used ops : Int} : (⟨[⟨[108, 111, 103], p, sure⟩], room, used, ops, 0, false⟩ : DS).sync [108, 111, 103] = (0, ⟨[⟨[108, 111, 103], p, p.length⟩], room, used, IntKind.i64.wrap (ops + 1), 0, false⟩) := by
  rfl
theorem new_grow {p q : List UInt8} {sure : Nat} {room used ops : Int} (h : (q.length : Int) ≤ room - used) : (⟨[⟨[108, 111, 103], p, sure⟩], room, used, ops, 0, false⟩ : DS).grow (newN [108, 111, 103]) q false = (0, ⟨[⟨[108, 111, 103], p, sure⟩, ⟨newN [108, 111, 103], q, 0⟩], room, used + q.length, IntKind.i64.wrap (ops + 1), 0, false⟩) := by
  rw [grow_done (by decide) rfl (by simp) (by simp only; omega)]
  rfl
theorem new_gone {p q : List UInt8} {sure : Nat} {room used ops : Int} : (⟨[⟨[108, 111, 103], p, sure⟩, ⟨newN [108, 111, 103], q, 0⟩], room, used, ops, 0, false⟩ : DS).opened [108, 111, 103] = ⟨[⟨[108, 111, 103], p, sure⟩], room, used - q.length, IntKind.i64.wrap (ops + 1), 0, false⟩ := by
  rfl

theorem walCuts_runs {w0 : World} {va vb : V} {p q : List UInt8} (ha : IsBytes va p) (hb : IsBytes vb q) (lp : p.length ≤ 1000000000000000) (lq : q.length ≤ 1000000000000000) {S : St} {Q : AEnd → St → Prop} (hQ : ∀ S', Q (.ret (.bool true)) S') :
    RSim Try.prog w0 n_l04_WalCuts [va, vb] S Q := by
  have hA : nameOk [108, 111, 103] = true := by decide
  have hB : nameOk (newN [108, 111, 103]) = true := by decide
  have hLp := (ha.into S (fun _ => False)).len
  have hLq := (hb.into S (fun _ => False)).len
  simp only [aF, Arg.ev] at hLp hLq
  have hw : IntKind.i64.wrap ((p.length : Int) + (q.length : Int)) = ((p.length + q.length : Nat) : Int) := by rw [w64 (by omega) (by omega)]; omega
  refine RSim.run mixed k_l04_WalCuts ?_ (by simp)
  simp only [b_l04_WalCuts, go_sem, Nat.reduceEqDiff, Nat.reduceAdd, Nat.reduceMul, Nat.reduceSub, Nat.reduceLeDiff, Int.reduceBEq, Int.reduceBNe, Int.reduceLT, Int.reduceLE, Int.reduceGT, Int.reduceGE, Int.reduceEq, ↓reduceIte, reduceCtorEq]
  refine wi_call ?_
  simp only [go_sem, Nat.reduceEqDiff, Nat.reduceAdd, Nat.reduceMul, Nat.reduceSub, Nat.reduceLeDiff, Int.reduceBEq, Int.reduceBNe, Int.reduceLT, Int.reduceLE, Int.reduceGT, Int.reduceGE, Int.reduceEq, ↓reduceIte, reduceCtorEq]
  refine walAwake_runs fun S0 k0 => ?_
  simp only [go_sem, Nat.reduceEqDiff, Nat.reduceAdd, Nat.reduceMul, Nat.reduceSub, Nat.reduceLeDiff, Int.reduceBEq, Int.reduceBNe, Int.reduceLT, Int.reduceLE, Int.reduceGT, Int.reduceGE, Int.reduceEq, ↓reduceIte, reduceCtorEq, hLp, hLq, hw]
  refine wc_ite (b := decide (((p.length + q.length : Nat) : Int) > 5000)) (by simp only [go_sem, Nat.reduceEqDiff, Nat.reduceAdd, Nat.reduceMul, Nat.reduceSub, Nat.reduceLeDiff, Int.reduceBEq, Int.reduceBNe, Int.reduceLT, Int.reduceLE, Int.reduceGT, Int.reduceGE, Int.reduceEq, ↓reduceIte, reduceCtorEq]) (fun hc => ?_) (fun hc => ?_)
  · simp only [go_sem, Nat.reduceEqDiff, Nat.reduceAdd, Nat.reduceMul, Nat.reduceSub, Nat.reduceLeDiff, Int.reduceBEq, Int.reduceBNe, Int.reduceLT, Int.reduceLE, Int.reduceGT, Int.reduceGE, Int.reduceEq, ↓reduceIte, reduceCtorEq]
    refine wi_call ?_
    simp only [go_sem, Nat.reduceEqDiff, Nat.reduceAdd, Nat.reduceMul, Nat.reduceSub, Nat.reduceLeDiff, Int.reduceBEq, Int.reduceBNe, Int.reduceLT, Int.reduceLE, Int.reduceGT, Int.reduceGE, Int.reduceEq, ↓reduceIte, reduceCtorEq]
    refine walAwake_runs fun S0 k0 => ?_
    simp only [go_sem, Nat.reduceEqDiff, Nat.reduceAdd, Nat.reduceMul, Nat.reduceSub, Nat.reduceLeDiff, Int.reduceBEq, Int.reduceBNe, Int.reduceLT, Int.reduceLE, Int.reduceGT, Int.reduceGE, Int.reduceEq, ↓reduceIte, reduceCtorEq]
    exact hQ _
  have hpq : p.length + q.length ≤ 5000 := by have := of_decide_eq_false hc; omega
  simp only [go_sem, Nat.reduceEqDiff, Nat.reduceAdd, Nat.reduceMul, Nat.reduceSub, Nat.reduceLeDiff, Int.reduceBEq, Int.reduceBNe, Int.reduceLT, Int.reduceLE, Int.reduceGT, Int.reduceGE, Int.reduceEq, ↓reduceIte, reduceCtorEq]
  refine wi_call ?_
  simp only [go_sem, Nat.reduceEqDiff, Nat.reduceAdd, Nat.reduceMul, Nat.reduceSub, Nat.reduceLeDiff, Int.reduceBEq, Int.reduceBNe, Int.reduceLT, Int.reduceLE, Int.reduceGT, Int.reduceGE, Int.reduceEq, ↓reduceIte, reduceCtorEq]
  refine new_runs (fun S1 i _ _ hi d1 k1 => ?_) (fun h => by omega)
  simp only [go_sem, Nat.reduceEqDiff, Nat.reduceAdd, Nat.reduceMul, Nat.reduceSub, Nat.reduceLeDiff, Int.reduceBEq, Int.reduceBNe, Int.reduceLT, Int.reduceLE, Int.reduceGT, Int.reduceGE, Int.reduceEq, ↓reduceIte, reduceCtorEq]
  refine wi_call ?_
  simp only [go_sem, Nat.reduceEqDiff, Nat.reduceAdd, Nat.reduceMul, Nat.reduceSub, Nat.reduceLeDiff, Int.reduceBEq, Int.reduceBNe, Int.reduceLT, Int.reduceLE, Int.reduceGT, Int.reduceGE, Int.reduceEq, ↓reduceIte, reduceCtorEq]
  refine append_runs d1 (by simp) (ha.into _ _) lp fun S2 D2 d2 a2 k2 o2 => ?_
  have A1 : (⟨S0.n, 0, [], 65536, 0, 0, 0, false⟩ : Dk).abs = ⟨[], 65536, 0, 0, 0, false⟩ := rfl
  rw [A1, log_grow (by omega)] at a2 ⊢
  simp only [go_sem, Nat.reduceEqDiff, Nat.reduceAdd, Nat.reduceMul, Nat.reduceSub, Nat.reduceLeDiff, Int.reduceBEq, Int.reduceBNe, Int.reduceLT, Int.reduceLE, Int.reduceGT, Int.reduceGE, Int.reduceEq, ↓reduceIte, reduceCtorEq]
  refine wi_call ?_
  simp only [go_sem, Nat.reduceEqDiff, Nat.reduceAdd, Nat.reduceMul, Nat.reduceSub, Nat.reduceLeDiff, Int.reduceBEq, Int.reduceBNe, Int.reduceLT, Int.reduceLE, Int.reduceGT, Int.reduceGE, Int.reduceEq, ↓reduceIte, reduceCtorEq]
  refine sync_runs d2 (by simp) fun S3 D3 d3 a3 k3 o3 => ?_
  rw [a2, log_sync] at a3 ⊢
  simp only [go_sem, Nat.reduceEqDiff, Nat.reduceAdd, Nat.reduceMul, Nat.reduceSub, Nat.reduceLeDiff, Int.reduceBEq, Int.reduceBNe, Int.reduceLT, Int.reduceLE, Int.reduceGT, Int.reduceGE, Int.reduceEq, ↓reduceIte, reduceCtorEq]
  refine wi_call ?_
  simp only [go_sem, Nat.reduceEqDiff, Nat.reduceAdd, Nat.reduceMul, Nat.reduceSub, Nat.reduceLeDiff, Int.reduceBEq, Int.reduceBNe, Int.reduceLT, Int.reduceLE, Int.reduceGT, Int.reduceGE, Int.reduceEq, ↓reduceIte, reduceCtorEq]
  refine append_runs (s := newN [108, 111, 103]) d3 (by simp [newN]) (hb.into _ _) lq fun S4 D4 d4 a4 k4 o4 => ?_
  rw [a3, new_grow (by omega)] at a4 ⊢
  simp only [go_sem, Nat.reduceEqDiff, Nat.reduceAdd, Nat.reduceMul, Nat.reduceSub, Nat.reduceLeDiff, Int.reduceBEq, Int.reduceBNe, Int.reduceLT, Int.reduceLE, Int.reduceGT, Int.reduceGE, Int.reduceEq, ↓reduceIte, reduceCtorEq]
  refine wc_ite (b := false) (by simp only [go_sem, Nat.reduceEqDiff, Nat.reduceAdd, Nat.reduceMul, Nat.reduceSub, Nat.reduceLeDiff, Int.reduceBEq, Int.reduceBNe, Int.reduceLT, Int.reduceLE, Int.reduceGT, Int.reduceGE, Int.reduceEq, ↓reduceIte, reduceCtorEq] <;> rfl) (fun h => by cases h) (fun _ => ?_)
  simp only [go_sem, Nat.reduceEqDiff, Nat.reduceAdd, Nat.reduceMul, Nat.reduceSub, Nat.reduceLeDiff, Int.reduceBEq, Int.reduceBNe, Int.reduceLT, Int.reduceLE, Int.reduceGT, Int.reduceGE, Int.reduceEq, ↓reduceIte, reduceCtorEq]
  refine wi_call ?_
  simp only [go_sem, Nat.reduceEqDiff, Nat.reduceAdd, Nat.reduceMul, Nat.reduceSub, Nat.reduceLeDiff, Int.reduceBEq, Int.reduceBNe, Int.reduceLT, Int.reduceLE, Int.reduceGT, Int.reduceGE, Int.reduceEq, ↓reduceIte, reduceCtorEq]
  obtain ⟨L, n, hsc⟩ := scans_ex _ p (Nat.le_refl _)
  obtain ⟨hft, hnl⟩ := scans_take hsc
  have hfl : (fileB L).length = n := by rw [hft, List.length_take]; omega
  have hwd : WD D4.abs [108, 111, 103] p p.length := by
    rw [a4]
    refine ⟨?_, fun x hx => ?_, rfl⟩
    · simp [newN]
    · simp only [List.mem_cons, List.not_mem_nil, or_false] at hx
      rcases hx with rfl | rfl
      · exact .inl rfl
      · exact .inr rfl
  have h4 : Dg S4 i D4 [108, 111, 103] p p.length 65536 := ⟨d4, hwd, by rw [a4], by rw [a4], by rw [a4]⟩
  refine open_ok h4 hA hB (by decide) (Nat.le_refl _) hsc (fun e => by rw [hft, e, List.take_length]) (by omega) fun S5 D5 g t5 h5 k5 o5 hn1 hn2 => ?_
  have hsure : (if n < p.length then (fileB L).length else p.length) = n := by split <;> omega
  rw [hsure] at h5
  have there : ∃ x ∈ D5.abs.files, x.name = [108, 111, 103] := by
    by_cases hlt : n < p.length
    · obtain ⟨x, hx, hm⟩ := hn1 hlt
      rw [← hx] at hm
      obtain ⟨y, hy, e⟩ := List.mem_map.1 hm
      exact ⟨y, hy, e⟩
    · rw [hn2 hlt, a4, new_gone]
      exact ⟨_, List.mem_cons_self, rfl⟩
  have hone : D5.ents.length = 1 := by
    have hl : ∀ x ∈ D5.abs.files, x.name = [108, 111, 103] := fun x hx => by
      rcases h5.v.only x hx with h | h
      · exact h
      · exfalso
        have hc := h5.c
        unfold DS.clean at hc
        have key : ∀ l : List File, findF (newN [108, 111, 103]) l = none → x ∈ l → x.name ≠ newN [108, 111, 103] := by
          intro l
          induction l with
          | nil => intro _ h; cases h
          | cons y r ih =>
            intro hf hm
            unfold findF at hf
            split at hf
            · cases hf
            · rcases List.mem_cons.1 hm with rfl | hm
              · assumption
              · exact ih hf hm
        exact key _ hc hx h
    have hnd := h5.v.nd
    have : D5.abs.files.length = D5.ents.length := by simp [Dk.abs]
    rw [← this]
    obtain ⟨x, hx, _⟩ := there
    match hff : D5.abs.files, hl, hnd, hx with
    | [_], _, _, _ => rfl
    | a :: b :: r, hl, hnd, _ =>
      exfalso
      have h1 := hl a (by simp)
      have h2 := hl b (by simp)
      simp [h1, h2] at hnd
  obtain ⟨y1, y2, y3⟩ := h5.v.bytes hA h5.off
  have hread : D5.abs.readE [108, 111, 103] = 0 := by
    unfold DS.readE
    rw [hA, h5.off]
    obtain ⟨x, hx, hxn⟩ := there
    have : findF [108, 111, 103] D5.abs.files ≠ none := by
      intro h
      have key : ∀ l : List File, findF [108, 111, 103] l = none → x ∈ l → False := by
        intro l
        induction l with
        | nil => intro _ h; cases h
        | cons y r ih =>
          intro hf hm
          unfold findF at hf
          split at hf
          · cases hf
          · rcases List.mem_cons.1 hm with rfl | hm
            · contradiction
            · exact ih hf hm
      exact key _ h hx
    cases hf : findF [108, 111, 103] D5.abs.files with
    | none => exact absurd hf this
    | some _ => rfl
  simp only [go_sem, Nat.reduceEqDiff, Nat.reduceAdd, Nat.reduceMul, Nat.reduceSub, Nat.reduceLeDiff, Int.reduceBEq, Int.reduceBNe, Int.reduceLT, Int.reduceLE, Int.reduceGT, Int.reduceGE, Int.reduceEq, ↓reduceIte, reduceCtorEq]
  refine wi_call ?_
  simp only [go_sem, Nat.reduceEqDiff, Nat.reduceAdd, Nat.reduceMul, Nat.reduceSub, Nat.reduceLeDiff, Int.reduceBEq, Int.reduceBNe, Int.reduceLT, Int.reduceLE, Int.reduceGT, Int.reduceGE, Int.reduceEq, ↓reduceIte, reduceCtorEq]
  refine refScan_runs ha (by omega) fun S6 v6 L6 n6 t6 s6 i6 ht6 ho6 hle6 k6 => ?_
  obtain ⟨rfl, rfl⟩ := hsc.det s6
  have h6 := h5.stay k6
  have hsh := scans_short hsc
  have hlen := scans_len hsc
  simp only [go_sem, Nat.reduceEqDiff, Nat.reduceAdd, Nat.reduceMul, Nat.reduceSub, Nat.reduceLeDiff, Int.reduceBEq, Int.reduceBNe, Int.reduceLT, Int.reduceLE, Int.reduceGT, Int.reduceGE, Int.reduceEq, ↓reduceIte, reduceCtorEq]
  refine wi_call ?_
  simp only [go_sem, Nat.reduceEqDiff, Nat.reduceAdd, Nat.reduceMul, Nat.reduceSub, Nat.reduceLeDiff, Int.reduceBEq, Int.reduceBNe, Int.reduceLT, Int.reduceLE, Int.reduceGT, Int.reduceGE, Int.reduceEq, ↓reduceIte, reduceCtorEq]
  refine all_runs h6.w (fun x hx => by have := hsh x hx; omega) (by omega) fun S7 v7 t7 hv7 k7 => ?_
  have h7 := h6.stay k7
  simp only [go_sem, Nat.reduceEqDiff, Nat.reduceAdd, Nat.reduceMul, Nat.reduceSub, Nat.reduceLeDiff, Int.reduceBEq, Int.reduceBNe, Int.reduceLT, Int.reduceLE, Int.reduceGT, Int.reduceGE, Int.reduceEq, ↓reduceIte, reduceCtorEq]
  refine wi_call ?_
  simp only [go_sem, Nat.reduceEqDiff, Nat.reduceAdd, Nat.reduceMul, Nat.reduceSub, Nat.reduceLeDiff, Int.reduceBEq, Int.reduceBNe, Int.reduceLT, Int.reduceLE, Int.reduceGT, Int.reduceGE, Int.reduceEq, ↓reduceIte, reduceCtorEq]
  refine same_runs hv7 i6 (by omega) ?_
  rw [decide_eq_true rfl]
  simp only [go_sem, Nat.reduceEqDiff, Nat.reduceAdd, Nat.reduceMul, Nat.reduceSub, Nat.reduceLeDiff, Int.reduceBEq, Int.reduceBNe, Int.reduceLT, Int.reduceLE, Int.reduceGT, Int.reduceGE, Int.reduceEq, ↓reduceIte, reduceCtorEq]
  refine wc_ite (b := false) (by simp only [go_sem, Nat.reduceEqDiff, Nat.reduceAdd, Nat.reduceMul, Nat.reduceSub, Nat.reduceLeDiff, Int.reduceBEq, Int.reduceBNe, Int.reduceLT, Int.reduceLE, Int.reduceGT, Int.reduceGE, Int.reduceEq, ↓reduceIte, reduceCtorEq] <;> rfl) (fun h => by cases h) (fun _ => ?_)
  simp only [go_sem, Nat.reduceEqDiff, Nat.reduceAdd, Nat.reduceMul, Nat.reduceSub, Nat.reduceLeDiff, Int.reduceBEq, Int.reduceBNe, Int.reduceLT, Int.reduceLE, Int.reduceGT, Int.reduceGE, Int.reduceEq, ↓reduceIte, reduceCtorEq]
  refine wi_call ?_
  simp only [go_sem, Nat.reduceEqDiff, Nat.reduceAdd, Nat.reduceMul, Nat.reduceSub, Nat.reduceLeDiff, Int.reduceBEq, Int.reduceBNe, Int.reduceLT, Int.reduceLE, Int.reduceGT, Int.reduceGE, Int.reduceEq, ↓reduceIte, reduceCtorEq]
  refine read_abs h7.w.d (by simp) fun S8 v8 hv8 k8 => ?_
  rw [y1] at hv8
  rw [hread]
  have h8 := h7.stay k8
  simp only [go_sem, Nat.reduceEqDiff, Nat.reduceAdd, Nat.reduceMul, Nat.reduceSub, Nat.reduceLeDiff, Int.reduceBEq, Int.reduceBNe, Int.reduceLT, Int.reduceLE, Int.reduceGT, Int.reduceGE, Int.reduceEq, ↓reduceIte, reduceCtorEq]
  refine wi_call ?_
  simp only [go_sem, Nat.reduceEqDiff, Nat.reduceAdd, Nat.reduceMul, Nat.reduceSub, Nat.reduceLeDiff, Int.reduceBEq, Int.reduceBNe, Int.reduceLT, Int.reduceLE, Int.reduceGT, Int.reduceGE, Int.reduceEq, ↓reduceIte, reduceCtorEq]
  refine names_runs h8.w.d (by omega) fun S9 t9 ht9 ht9' k9 => ?_
  have h9 := h8.stay k9
  have hnm : D5.names.length = 1 := by
    unfold Dk.names
    rw [show (sortS (D5.ents.map (·.name))).length = (D5.ents.map (·.name)).length from List.length_mergeSort _]
    simpa using hone
  have c2 : ∀ S, V.conv S .bytesStr v8 = some (.str (mkS (p.take n))) := fun S => by rw [hv8.convS S, hft]
  have q : ((n : Int) == (n : Int)) = true := beq_self_eq_true _
  have hnT : (n ≤ p.length) = True := eq_true hnl
  obtain ⟨tk, rfl, htk⟩ := ha
  have key : ∀ (vc : V), IsBytes vc (p.take n) → ∀ S, V.conv S .bytesStr vc = some (.str (mkS (p.take n))) := fun vc h S => h.convS S
  by_cases h0 : tk = .nil
  · have hp0 := htk h0
    subst hp0
    have hn0 : n = 0 := by simpa using hnl
    subst hn0
    have c1 : ∀ S, V.conv S .bytesStr (.sl [] 0 1 .nil) = some (.str (mkS [])) := fun S => isBytes_nil.convS S
    subst h0
    simp only [go_sem, Nat.reduceEqDiff, Nat.reduceAdd, Nat.reduceMul, Nat.reduceSub, Nat.reduceLeDiff, Int.reduceBEq, Int.reduceBNe, Int.reduceLT, Int.reduceLE, Int.reduceGT, Int.reduceGE, Int.reduceEq, ↓reduceIte, reduceCtorEq, hnT, c1, c2, decide_true]
    refine wi_call ?_
    simp only [go_sem, Nat.reduceEqDiff, Nat.reduceAdd, Nat.reduceMul, Nat.reduceSub, Nat.reduceLeDiff, Int.reduceBEq, Int.reduceBNe, Int.reduceLT, Int.reduceLE, Int.reduceGT, Int.reduceGE, Int.reduceEq, ↓reduceIte, reduceCtorEq]
    refine sure_abs h9.w.d ?_
    rw [y3]
    simp only [go_sem, Nat.reduceEqDiff, Nat.reduceAdd, Nat.reduceMul, Nat.reduceSub, Nat.reduceLeDiff, Int.reduceBEq, Int.reduceBNe, Int.reduceLT, Int.reduceLE, Int.reduceGT, Int.reduceGE, Int.reduceEq, ↓reduceIte, reduceCtorEq, strsV, hnm, q]
    exact hQ _
  · have h0' : (tk = .nil) = False := eq_false h0
    have e : (p.take n).length = n := by rw [List.length_take]; omega
    have b1 := isBytes_mk (p.take n) (t := if n = p.length then tk else .no) (by split <;> simp [h0])
    rw [e, List.map_take] at b1
    have c1 := key _ b1
    simp only [go_sem, Nat.reduceEqDiff, Nat.reduceAdd, Nat.reduceMul, Nat.reduceSub, Nat.reduceLeDiff, Int.reduceBEq, Int.reduceBNe, Int.reduceLT, Int.reduceLE, Int.reduceGT, Int.reduceGE, Int.reduceEq, ↓reduceIte, reduceCtorEq, hnT, h0', Nat.zero_mul, List.drop_zero, Nat.sub_zero, Nat.mul_one, c1, c2, decide_true]
    refine wi_call ?_
    simp only [go_sem, Nat.reduceEqDiff, Nat.reduceAdd, Nat.reduceMul, Nat.reduceSub, Nat.reduceLeDiff, Int.reduceBEq, Int.reduceBNe, Int.reduceLT, Int.reduceLE, Int.reduceGT, Int.reduceGE, Int.reduceEq, ↓reduceIte, reduceCtorEq]
    refine sure_abs h9.w.d ?_
    rw [y3]
    simp only [go_sem, Nat.reduceEqDiff, Nat.reduceAdd, Nat.reduceMul, Nat.reduceSub, Nat.reduceLeDiff, Int.reduceBEq, Int.reduceBNe, Int.reduceLT, Int.reduceLE, Int.reduceGT, Int.reduceGE, Int.reduceEq, ↓reduceIte, reduceCtorEq, strsV, hnm, q]
    exact hQ _
end Go.VM
