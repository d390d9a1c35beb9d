/-
  DiskOff. NEWPP
-/
import Derived.Test.YtddjanglghgoeaaDAbs
set_option linter.unusedVariables false
set_option linter.unusedSimpArgs false
namespace Go.VM
open Go Go.RowKit Go.Proofs

/-- A call of a script. -/
structure DAct where
  kind : UInt8
  name : List UInt8
  to : List UInt8
  p : List UInt8
  n : Int
  keep : List Int
def DActR (c : List V) (a : DAct) : Prop := ∃ d k t, c = [.int .u8 a.kind.toNat, .str (mkS a.name), .str (mkS a.to), d, .int .i64 a.n, k] ∧ IsBytes d a.p ∧ k = intsV a.keep t ∧ (t = .nil → a.keep = [])
structure DAct.Small (a : DAct) : Prop where
  name : a.name.length ≤ 1000000000000000
  to : a.to.length ≤ 1000000000000000
  p : a.p.length ≤ 1000000000000000
  keep : a.keep.length ≤ 1000000000000000
  n : -9223372036854775808 ≤ a.n ∧ a.n ≤ 9223372036854775807
theorem IsSlice.at2 {α : Type} {R : List V → α → Prop} {sz : Nat} {v : V} {l : List α} {t : Tok} (h : IsSlice R sz v l t) {j : Nat} {x : α} (hx : l[j]? = some x) :
    ∃ cs c, v = .sl cs l.length sz t ∧ t ≠ .nil ∧ j < l.length ∧ sz ≤ (cs.drop (j * sz)).length ∧ (cs.drop (j * sz)).take sz = c ∧ c.length = sz ∧ R c x := by
  obtain ⟨L, rfl, hn, hs, hl, hR⟩ := h.ex
  have hj := (List.getElem?_eq_some_iff.1 hx).1
  have hc : L[j]? = some (L[j]'(by omega)) := List.getElem?_eq_getElem (by omega)
  exact ⟨_, _, rfl, fun e => by rw [hn e] at hj; simp at hj, hj, (flat_at hs hc).2, (flat_at hs hc).1, hs _ (List.getElem_mem _), hR j _ x hc hx⟩

theorem change_off {D : DS} {s : List UInt8} (F : DS → File → DS) (hn : nameOk s = true) (ho : D.off = true) : D.change s F = (10, D) := by
  unfold DS.change; rw [if_neg (by simp [hn]), if_pos ho]
theorem rename_off {D : DS} {s t : List UInt8} (hn : nameOk s = true) (ht : nameOk t = true) (hst : s ≠ t) (ho : D.off = true) : D.rename s t = (10, D) := by
  unfold DS.rename; rw [if_neg (by simp [hn, ht]), if_neg hst, if_neg (by simp [ho]), change_off _ hn ho]

theorem u8_rem8 (k : UInt8) : (k.toNat : Int).tmod 8 = ((k.toNat % 8 : Nat) : Int) := by
  rw [Int.tmod_eq_emod_of_nonneg (by omega)]; omega

theorem off_switch {w0 : World} {fr : Fr} {S : St} {Q : CPost} {i b : Nat} {D : Dk} {r : Nat} {f0 f1 f2 f4 f5 : V} {d : V} {p : List UInt8} (hr : r < 6) (h : DiskAt S i D) (ho : D.off = true) (hd : IsBytes d p) (hpl : p.length ≤ 1000000000000000)
    (hb : S.cells b = some [f0, f1, f2, d, f4, f5]) (hlt : b < S.n) (g5 : fr 5 = .ptr (some (i, 0))) (g9 : fr 9 = .ptr (some (b, 0))) (g64 : fr 64 = .int .u8 (r : Int))
    (hQ : ∀ fr' S' D', (∀ k, k < 9 → fr' k = fr k) → fr' 10 = .int .i64 10 → DiskAt S' i D' → D'.abs = D.abs → Keeps (ownD i D) S S' → (∀ j, ownD i D' j → ownD i D j ∨ S.n ≤ j) → Q .normal fr' S') :
    wCode (RSim Try.prog w0) k_l02_DiskOff_0 fr S Q := by
  have hA : nameOk [97] = true := by decide
  have hB : nameOk [98] = true := by decide
  have hC : nameOk [99] = true := by decide
  have ho' : D.abs.off = true := ho
  have fin : ∀ (fr' : Fr) (k : Nat), k < 9 → True := fun _ _ _ => trivial
  rcases (show r = 0 ∨ r = 1 ∨ r = 2 ∨ r = 3 ∨ r = 4 ∨ r = 5 by omega) with rfl | rfl | rfl | rfl | rfl | rfl
  · simp only [k_l02_DiskOff_0, go_sem, Nat.reduceEqDiff, Nat.reduceAdd, Nat.reduceMul, Nat.reduceSub, Nat.reduceLeDiff, Int.reduceBEq, Int.reduceBNe, Int.reduceLT, Int.reduceLE, Int.reduceGT, Int.reduceGE, Int.reduceEq, ↓reduceIte, reduceCtorEq, g64, Int.natCast_zero]
    refine wc_ite (b := true) (by simp only [go_sem, Nat.reduceEqDiff, Nat.reduceAdd, Nat.reduceMul, Nat.reduceSub, Nat.reduceLeDiff, Int.reduceBEq, Int.reduceBNe, Int.reduceLT, Int.reduceLE, Int.reduceGT, Int.reduceGE, Int.reduceEq, ↓reduceIte, reduceCtorEq] <;> rfl) (fun _ => ?_) (fun h => by cases h)
    simp only [go_sem, Nat.reduceEqDiff, Nat.reduceAdd, Nat.reduceMul, Nat.reduceSub, Nat.reduceLeDiff, Int.reduceBEq, Int.reduceBNe, Int.reduceLT, Int.reduceLE, Int.reduceGT, Int.reduceGE, Int.reduceEq, ↓reduceIte, reduceCtorEq, g5, g9, hb]
    refine wi_call ?_
    simp only [go_sem, Nat.reduceEqDiff, Nat.reduceAdd, Nat.reduceMul, Nat.reduceSub, Nat.reduceLeDiff, Int.reduceBEq, Int.reduceBNe, Int.reduceLT, Int.reduceLE, Int.reduceGT, Int.reduceGE, Int.reduceEq, ↓reduceIte, reduceCtorEq]
    refine append_runs h (by simp) (hd.into _ _) hpl fun S1 D1 d1 a1 k1 o1 => ?_
    rw [grow_off hA ho'] at a1 ⊢
    simp only [go_sem, Nat.reduceEqDiff, Nat.reduceAdd, Nat.reduceMul, Nat.reduceSub, Nat.reduceLeDiff, Int.reduceBEq, Int.reduceBNe, Int.reduceLT, Int.reduceLE, Int.reduceGT, Int.reduceGE, Int.reduceEq, ↓reduceIte, reduceCtorEq]
    exact hQ _ S1 D1 (fun k hk => by simp only [put_some]; repeat rw [if_neg (by omega)]) (by simp only [go_sem, Nat.reduceEqDiff, Nat.reduceAdd, Nat.reduceMul, Nat.reduceSub, Nat.reduceLeDiff, Int.reduceBEq, Int.reduceBNe, Int.reduceLT, Int.reduceLE, Int.reduceGT, Int.reduceGE, Int.reduceEq, ↓reduceIte, reduceCtorEq]) d1 a1 k1 o1
  · simp only [k_l02_DiskOff_0, go_sem, Nat.reduceEqDiff, Nat.reduceAdd, Nat.reduceMul, Nat.reduceSub, Nat.reduceLeDiff, Int.reduceBEq, Int.reduceBNe, Int.reduceLT, Int.reduceLE, Int.reduceGT, Int.reduceGE, Int.reduceEq, ↓reduceIte, reduceCtorEq, g64, Int.natCast_one]
    refine wc_ite (b := false) (by simp only [go_sem, Nat.reduceEqDiff, Nat.reduceAdd, Nat.reduceMul, Nat.reduceSub, Nat.reduceLeDiff, Int.reduceBEq, Int.reduceBNe, Int.reduceLT, Int.reduceLE, Int.reduceGT, Int.reduceGE, Int.reduceEq, ↓reduceIte, reduceCtorEq] <;> rfl) (fun h => by cases h) (fun _ => ?_)
    simp only [go_sem, Nat.reduceEqDiff, Nat.reduceAdd, Nat.reduceMul, Nat.reduceSub, Nat.reduceLeDiff, Int.reduceBEq, Int.reduceBNe, Int.reduceLT, Int.reduceLE, Int.reduceGT, Int.reduceGE, Int.reduceEq, ↓reduceIte, reduceCtorEq, g64, Int.natCast_one]
    refine wc_ite (b := true) (by simp only [go_sem, Nat.reduceEqDiff, Nat.reduceAdd, Nat.reduceMul, Nat.reduceSub, Nat.reduceLeDiff, Int.reduceBEq, Int.reduceBNe, Int.reduceLT, Int.reduceLE, Int.reduceGT, Int.reduceGE, Int.reduceEq, ↓reduceIte, reduceCtorEq] <;> rfl) (fun _ => ?_) (fun h => by cases h)
    simp only [go_sem, Nat.reduceEqDiff, Nat.reduceAdd, Nat.reduceMul, Nat.reduceSub, Nat.reduceLeDiff, Int.reduceBEq, Int.reduceBNe, Int.reduceLT, Int.reduceLE, Int.reduceGT, Int.reduceGE, Int.reduceEq, ↓reduceIte, reduceCtorEq, g5, g9, hb]
    refine wi_call ?_
    simp only [go_sem, Nat.reduceEqDiff, Nat.reduceAdd, Nat.reduceMul, Nat.reduceSub, Nat.reduceLeDiff, Int.reduceBEq, Int.reduceBNe, Int.reduceLT, Int.reduceLE, Int.reduceGT, Int.reduceGE, Int.reduceEq, ↓reduceIte, reduceCtorEq]
    refine put_runs h (by simp) (hd.into _ _) hpl fun S1 D1 d1 a1 k1 o1 => ?_
    rw [grow_off hB ho'] at a1 ⊢
    simp only [go_sem, Nat.reduceEqDiff, Nat.reduceAdd, Nat.reduceMul, Nat.reduceSub, Nat.reduceLeDiff, Int.reduceBEq, Int.reduceBNe, Int.reduceLT, Int.reduceLE, Int.reduceGT, Int.reduceGE, Int.reduceEq, ↓reduceIte, reduceCtorEq]
    exact hQ _ S1 D1 (fun k hk => by simp only [put_some]; repeat rw [if_neg (by omega)]) (by simp only [go_sem, Nat.reduceEqDiff, Nat.reduceAdd, Nat.reduceMul, Nat.reduceSub, Nat.reduceLeDiff, Int.reduceBEq, Int.reduceBNe, Int.reduceLT, Int.reduceLE, Int.reduceGT, Int.reduceGE, Int.reduceEq, ↓reduceIte, reduceCtorEq]) d1 a1 k1 o1
  · have cN : ((2 : Nat) : Int) = 2 := rfl
    simp only [k_l02_DiskOff_0, go_sem, Nat.reduceEqDiff, Nat.reduceAdd, Nat.reduceMul, Nat.reduceSub, Nat.reduceLeDiff, Int.reduceBEq, Int.reduceBNe, Int.reduceLT, Int.reduceLE, Int.reduceGT, Int.reduceGE, Int.reduceEq, ↓reduceIte, reduceCtorEq, g64, cN]
    refine wc_ite (b := false) (by simp only [go_sem, Nat.reduceEqDiff, Nat.reduceAdd, Nat.reduceMul, Nat.reduceSub, Nat.reduceLeDiff, Int.reduceBEq, Int.reduceBNe, Int.reduceLT, Int.reduceLE, Int.reduceGT, Int.reduceGE, Int.reduceEq, ↓reduceIte, reduceCtorEq] <;> rfl) (fun h => by cases h) (fun _ => ?_)
    simp only [go_sem, Nat.reduceEqDiff, Nat.reduceAdd, Nat.reduceMul, Nat.reduceSub, Nat.reduceLeDiff, Int.reduceBEq, Int.reduceBNe, Int.reduceLT, Int.reduceLE, Int.reduceGT, Int.reduceGE, Int.reduceEq, ↓reduceIte, reduceCtorEq, g64, cN]
    refine wc_ite (b := false) (by simp only [go_sem, Nat.reduceEqDiff, Nat.reduceAdd, Nat.reduceMul, Nat.reduceSub, Nat.reduceLeDiff, Int.reduceBEq, Int.reduceBNe, Int.reduceLT, Int.reduceLE, Int.reduceGT, Int.reduceGE, Int.reduceEq, ↓reduceIte, reduceCtorEq] <;> rfl) (fun h => by cases h) (fun _ => ?_)
    simp only [go_sem, Nat.reduceEqDiff, Nat.reduceAdd, Nat.reduceMul, Nat.reduceSub, Nat.reduceLeDiff, Int.reduceBEq, Int.reduceBNe, Int.reduceLT, Int.reduceLE, Int.reduceGT, Int.reduceGE, Int.reduceEq, ↓reduceIte, reduceCtorEq, g64, cN]
    refine wc_ite (b := true) (by simp only [go_sem, Nat.reduceEqDiff, Nat.reduceAdd, Nat.reduceMul, Nat.reduceSub, Nat.reduceLeDiff, Int.reduceBEq, Int.reduceBNe, Int.reduceLT, Int.reduceLE, Int.reduceGT, Int.reduceGE, Int.reduceEq, ↓reduceIte, reduceCtorEq] <;> rfl) (fun _ => ?_) (fun h => by cases h)
    simp only [go_sem, Nat.reduceEqDiff, Nat.reduceAdd, Nat.reduceMul, Nat.reduceSub, Nat.reduceLeDiff, Int.reduceBEq, Int.reduceBNe, Int.reduceLT, Int.reduceLE, Int.reduceGT, Int.reduceGE, Int.reduceEq, ↓reduceIte, reduceCtorEq, g5, g9, hb]
    refine wi_call ?_
    simp only [go_sem, Nat.reduceEqDiff, Nat.reduceAdd, Nat.reduceMul, Nat.reduceSub, Nat.reduceLeDiff, Int.reduceBEq, Int.reduceBNe, Int.reduceLT, Int.reduceLE, Int.reduceGT, Int.reduceGE, Int.reduceEq, ↓reduceIte, reduceCtorEq]
    refine sync_runs h (by simp) fun S1 D1 d1 a1 k1 o1 => ?_
    rw [DS.sync, change_off _ hA ho'] at a1 ⊢
    simp only [go_sem, Nat.reduceEqDiff, Nat.reduceAdd, Nat.reduceMul, Nat.reduceSub, Nat.reduceLeDiff, Int.reduceBEq, Int.reduceBNe, Int.reduceLT, Int.reduceLE, Int.reduceGT, Int.reduceGE, Int.reduceEq, ↓reduceIte, reduceCtorEq]
    exact hQ _ S1 D1 (fun k hk => by simp only [put_some]; repeat rw [if_neg (by omega)]) (by simp only [go_sem, Nat.reduceEqDiff, Nat.reduceAdd, Nat.reduceMul, Nat.reduceSub, Nat.reduceLeDiff, Int.reduceBEq, Int.reduceBNe, Int.reduceLT, Int.reduceLE, Int.reduceGT, Int.reduceGE, Int.reduceEq, ↓reduceIte, reduceCtorEq]) d1 a1 k1 o1
  · have cN : ((3 : Nat) : Int) = 3 := rfl
    simp only [k_l02_DiskOff_0, go_sem, Nat.reduceEqDiff, Nat.reduceAdd, Nat.reduceMul, Nat.reduceSub, Nat.reduceLeDiff, Int.reduceBEq, Int.reduceBNe, Int.reduceLT, Int.reduceLE, Int.reduceGT, Int.reduceGE, Int.reduceEq, ↓reduceIte, reduceCtorEq, g64, cN]
    refine wc_ite (b := false) (by simp only [go_sem, Nat.reduceEqDiff, Nat.reduceAdd, Nat.reduceMul, Nat.reduceSub, Nat.reduceLeDiff, Int.reduceBEq, Int.reduceBNe, Int.reduceLT, Int.reduceLE, Int.reduceGT, Int.reduceGE, Int.reduceEq, ↓reduceIte, reduceCtorEq] <;> rfl) (fun h => by cases h) (fun _ => ?_)
    simp only [go_sem, Nat.reduceEqDiff, Nat.reduceAdd, Nat.reduceMul, Nat.reduceSub, Nat.reduceLeDiff, Int.reduceBEq, Int.reduceBNe, Int.reduceLT, Int.reduceLE, Int.reduceGT, Int.reduceGE, Int.reduceEq, ↓reduceIte, reduceCtorEq, g64, cN]
    refine wc_ite (b := false) (by simp only [go_sem, Nat.reduceEqDiff, Nat.reduceAdd, Nat.reduceMul, Nat.reduceSub, Nat.reduceLeDiff, Int.reduceBEq, Int.reduceBNe, Int.reduceLT, Int.reduceLE, Int.reduceGT, Int.reduceGE, Int.reduceEq, ↓reduceIte, reduceCtorEq] <;> rfl) (fun h => by cases h) (fun _ => ?_)
    simp only [go_sem, Nat.reduceEqDiff, Nat.reduceAdd, Nat.reduceMul, Nat.reduceSub, Nat.reduceLeDiff, Int.reduceBEq, Int.reduceBNe, Int.reduceLT, Int.reduceLE, Int.reduceGT, Int.reduceGE, Int.reduceEq, ↓reduceIte, reduceCtorEq, g64, cN]
    refine wc_ite (b := false) (by simp only [go_sem, Nat.reduceEqDiff, Nat.reduceAdd, Nat.reduceMul, Nat.reduceSub, Nat.reduceLeDiff, Int.reduceBEq, Int.reduceBNe, Int.reduceLT, Int.reduceLE, Int.reduceGT, Int.reduceGE, Int.reduceEq, ↓reduceIte, reduceCtorEq] <;> rfl) (fun h => by cases h) (fun _ => ?_)
    simp only [go_sem, Nat.reduceEqDiff, Nat.reduceAdd, Nat.reduceMul, Nat.reduceSub, Nat.reduceLeDiff, Int.reduceBEq, Int.reduceBNe, Int.reduceLT, Int.reduceLE, Int.reduceGT, Int.reduceGE, Int.reduceEq, ↓reduceIte, reduceCtorEq, g64, cN]
    refine wc_ite (b := true) (by simp only [go_sem, Nat.reduceEqDiff, Nat.reduceAdd, Nat.reduceMul, Nat.reduceSub, Nat.reduceLeDiff, Int.reduceBEq, Int.reduceBNe, Int.reduceLT, Int.reduceLE, Int.reduceGT, Int.reduceGE, Int.reduceEq, ↓reduceIte, reduceCtorEq] <;> rfl) (fun _ => ?_) (fun h => by cases h)
    simp only [go_sem, Nat.reduceEqDiff, Nat.reduceAdd, Nat.reduceMul, Nat.reduceSub, Nat.reduceLeDiff, Int.reduceBEq, Int.reduceBNe, Int.reduceLT, Int.reduceLE, Int.reduceGT, Int.reduceGE, Int.reduceEq, ↓reduceIte, reduceCtorEq, g5, g9, hb]
    refine wi_call ?_
    simp only [go_sem, Nat.reduceEqDiff, Nat.reduceAdd, Nat.reduceMul, Nat.reduceSub, Nat.reduceLeDiff, Int.reduceBEq, Int.reduceBNe, Int.reduceLT, Int.reduceLE, Int.reduceGT, Int.reduceGE, Int.reduceEq, ↓reduceIte, reduceCtorEq]
    refine remove_runs h (by simp) fun S1 D1 d1 a1 k1 o1 => ?_
    rw [DS.remove, change_off _ hA ho'] at a1 ⊢
    simp only [go_sem, Nat.reduceEqDiff, Nat.reduceAdd, Nat.reduceMul, Nat.reduceSub, Nat.reduceLeDiff, Int.reduceBEq, Int.reduceBNe, Int.reduceLT, Int.reduceLE, Int.reduceGT, Int.reduceGE, Int.reduceEq, ↓reduceIte, reduceCtorEq]
    exact hQ _ S1 D1 (fun k hk => by simp only [put_some]; repeat rw [if_neg (by omega)]) (by simp only [go_sem, Nat.reduceEqDiff, Nat.reduceAdd, Nat.reduceMul, Nat.reduceSub, Nat.reduceLeDiff, Int.reduceBEq, Int.reduceBNe, Int.reduceLT, Int.reduceLE, Int.reduceGT, Int.reduceGE, Int.reduceEq, ↓reduceIte, reduceCtorEq]) d1 a1 k1 (fun j hj => .inl (o1 j hj))
  · have cN : ((4 : Nat) : Int) = 4 := rfl
    simp only [k_l02_DiskOff_0, go_sem, Nat.reduceEqDiff, Nat.reduceAdd, Nat.reduceMul, Nat.reduceSub, Nat.reduceLeDiff, Int.reduceBEq, Int.reduceBNe, Int.reduceLT, Int.reduceLE, Int.reduceGT, Int.reduceGE, Int.reduceEq, ↓reduceIte, reduceCtorEq, g64, cN]
    refine wc_ite (b := false) (by simp only [go_sem, Nat.reduceEqDiff, Nat.reduceAdd, Nat.reduceMul, Nat.reduceSub, Nat.reduceLeDiff, Int.reduceBEq, Int.reduceBNe, Int.reduceLT, Int.reduceLE, Int.reduceGT, Int.reduceGE, Int.reduceEq, ↓reduceIte, reduceCtorEq] <;> rfl) (fun h => by cases h) (fun _ => ?_)
    simp only [go_sem, Nat.reduceEqDiff, Nat.reduceAdd, Nat.reduceMul, Nat.reduceSub, Nat.reduceLeDiff, Int.reduceBEq, Int.reduceBNe, Int.reduceLT, Int.reduceLE, Int.reduceGT, Int.reduceGE, Int.reduceEq, ↓reduceIte, reduceCtorEq, g64, cN]
    refine wc_ite (b := false) (by simp only [go_sem, Nat.reduceEqDiff, Nat.reduceAdd, Nat.reduceMul, Nat.reduceSub, Nat.reduceLeDiff, Int.reduceBEq, Int.reduceBNe, Int.reduceLT, Int.reduceLE, Int.reduceGT, Int.reduceGE, Int.reduceEq, ↓reduceIte, reduceCtorEq] <;> rfl) (fun h => by cases h) (fun _ => ?_)
    simp only [go_sem, Nat.reduceEqDiff, Nat.reduceAdd, Nat.reduceMul, Nat.reduceSub, Nat.reduceLeDiff, Int.reduceBEq, Int.reduceBNe, Int.reduceLT, Int.reduceLE, Int.reduceGT, Int.reduceGE, Int.reduceEq, ↓reduceIte, reduceCtorEq, g64, cN]
    refine wc_ite (b := false) (by simp only [go_sem, Nat.reduceEqDiff, Nat.reduceAdd, Nat.reduceMul, Nat.reduceSub, Nat.reduceLeDiff, Int.reduceBEq, Int.reduceBNe, Int.reduceLT, Int.reduceLE, Int.reduceGT, Int.reduceGE, Int.reduceEq, ↓reduceIte, reduceCtorEq] <;> rfl) (fun h => by cases h) (fun _ => ?_)
    simp only [go_sem, Nat.reduceEqDiff, Nat.reduceAdd, Nat.reduceMul, Nat.reduceSub, Nat.reduceLeDiff, Int.reduceBEq, Int.reduceBNe, Int.reduceLT, Int.reduceLE, Int.reduceGT, Int.reduceGE, Int.reduceEq, ↓reduceIte, reduceCtorEq, g64, cN]
    refine wc_ite (b := false) (by simp only [go_sem, Nat.reduceEqDiff, Nat.reduceAdd, Nat.reduceMul, Nat.reduceSub, Nat.reduceLeDiff, Int.reduceBEq, Int.reduceBNe, Int.reduceLT, Int.reduceLE, Int.reduceGT, Int.reduceGE, Int.reduceEq, ↓reduceIte, reduceCtorEq] <;> rfl) (fun h => by cases h) (fun _ => ?_)
    simp only [go_sem, Nat.reduceEqDiff, Nat.reduceAdd, Nat.reduceMul, Nat.reduceSub, Nat.reduceLeDiff, Int.reduceBEq, Int.reduceBNe, Int.reduceLT, Int.reduceLE, Int.reduceGT, Int.reduceGE, Int.reduceEq, ↓reduceIte, reduceCtorEq, g64, cN]
    refine wc_ite (b := true) (by simp only [go_sem, Nat.reduceEqDiff, Nat.reduceAdd, Nat.reduceMul, Nat.reduceSub, Nat.reduceLeDiff, Int.reduceBEq, Int.reduceBNe, Int.reduceLT, Int.reduceLE, Int.reduceGT, Int.reduceGE, Int.reduceEq, ↓reduceIte, reduceCtorEq] <;> rfl) (fun _ => ?_) (fun h => by cases h)
    simp only [go_sem, Nat.reduceEqDiff, Nat.reduceAdd, Nat.reduceMul, Nat.reduceSub, Nat.reduceLeDiff, Int.reduceBEq, Int.reduceBNe, Int.reduceLT, Int.reduceLE, Int.reduceGT, Int.reduceGE, Int.reduceEq, ↓reduceIte, reduceCtorEq, g5, g9, hb]
    refine wi_call ?_
    simp only [go_sem, Nat.reduceEqDiff, Nat.reduceAdd, Nat.reduceMul, Nat.reduceSub, Nat.reduceLeDiff, Int.reduceBEq, Int.reduceBNe, Int.reduceLT, Int.reduceLE, Int.reduceGT, Int.reduceGE, Int.reduceEq, ↓reduceIte, reduceCtorEq]
    refine rename_runs h (by simp) (by simp) fun S1 D1 d1 a1 k1 o1 => ?_
    rw [rename_off hA hC (by decide) ho'] at a1 ⊢
    simp only [go_sem, Nat.reduceEqDiff, Nat.reduceAdd, Nat.reduceMul, Nat.reduceSub, Nat.reduceLeDiff, Int.reduceBEq, Int.reduceBNe, Int.reduceLT, Int.reduceLE, Int.reduceGT, Int.reduceGE, Int.reduceEq, ↓reduceIte, reduceCtorEq]
    exact hQ _ S1 D1 (fun k hk => by simp only [put_some]; repeat rw [if_neg (by omega)]) (by simp only [go_sem, Nat.reduceEqDiff, Nat.reduceAdd, Nat.reduceMul, Nat.reduceSub, Nat.reduceLeDiff, Int.reduceBEq, Int.reduceBNe, Int.reduceLT, Int.reduceLE, Int.reduceGT, Int.reduceGE, Int.reduceEq, ↓reduceIte, reduceCtorEq]) d1 a1 k1 (fun j hj => .inl (o1 j hj))
  · have cN : ((5 : Nat) : Int) = 5 := rfl
    simp only [k_l02_DiskOff_0, go_sem, Nat.reduceEqDiff, Nat.reduceAdd, Nat.reduceMul, Nat.reduceSub, Nat.reduceLeDiff, Int.reduceBEq, Int.reduceBNe, Int.reduceLT, Int.reduceLE, Int.reduceGT, Int.reduceGE, Int.reduceEq, ↓reduceIte, reduceCtorEq, g64, cN]
    refine wc_ite (b := false) (by simp only [go_sem, Nat.reduceEqDiff, Nat.reduceAdd, Nat.reduceMul, Nat.reduceSub, Nat.reduceLeDiff, Int.reduceBEq, Int.reduceBNe, Int.reduceLT, Int.reduceLE, Int.reduceGT, Int.reduceGE, Int.reduceEq, ↓reduceIte, reduceCtorEq] <;> rfl) (fun h => by cases h) (fun _ => ?_)
    simp only [go_sem, Nat.reduceEqDiff, Nat.reduceAdd, Nat.reduceMul, Nat.reduceSub, Nat.reduceLeDiff, Int.reduceBEq, Int.reduceBNe, Int.reduceLT, Int.reduceLE, Int.reduceGT, Int.reduceGE, Int.reduceEq, ↓reduceIte, reduceCtorEq, g64, cN]
    refine wc_ite (b := false) (by simp only [go_sem, Nat.reduceEqDiff, Nat.reduceAdd, Nat.reduceMul, Nat.reduceSub, Nat.reduceLeDiff, Int.reduceBEq, Int.reduceBNe, Int.reduceLT, Int.reduceLE, Int.reduceGT, Int.reduceGE, Int.reduceEq, ↓reduceIte, reduceCtorEq] <;> rfl) (fun h => by cases h) (fun _ => ?_)
    simp only [go_sem, Nat.reduceEqDiff, Nat.reduceAdd, Nat.reduceMul, Nat.reduceSub, Nat.reduceLeDiff, Int.reduceBEq, Int.reduceBNe, Int.reduceLT, Int.reduceLE, Int.reduceGT, Int.reduceGE, Int.reduceEq, ↓reduceIte, reduceCtorEq, g64, cN]
    refine wc_ite (b := false) (by simp only [go_sem, Nat.reduceEqDiff, Nat.reduceAdd, Nat.reduceMul, Nat.reduceSub, Nat.reduceLeDiff, Int.reduceBEq, Int.reduceBNe, Int.reduceLT, Int.reduceLE, Int.reduceGT, Int.reduceGE, Int.reduceEq, ↓reduceIte, reduceCtorEq] <;> rfl) (fun h => by cases h) (fun _ => ?_)
    simp only [go_sem, Nat.reduceEqDiff, Nat.reduceAdd, Nat.reduceMul, Nat.reduceSub, Nat.reduceLeDiff, Int.reduceBEq, Int.reduceBNe, Int.reduceLT, Int.reduceLE, Int.reduceGT, Int.reduceGE, Int.reduceEq, ↓reduceIte, reduceCtorEq, g64, cN]
    refine wc_ite (b := false) (by simp only [go_sem, Nat.reduceEqDiff, Nat.reduceAdd, Nat.reduceMul, Nat.reduceSub, Nat.reduceLeDiff, Int.reduceBEq, Int.reduceBNe, Int.reduceLT, Int.reduceLE, Int.reduceGT, Int.reduceGE, Int.reduceEq, ↓reduceIte, reduceCtorEq] <;> rfl) (fun h => by cases h) (fun _ => ?_)
    simp only [go_sem, Nat.reduceEqDiff, Nat.reduceAdd, Nat.reduceMul, Nat.reduceSub, Nat.reduceLeDiff, Int.reduceBEq, Int.reduceBNe, Int.reduceLT, Int.reduceLE, Int.reduceGT, Int.reduceGE, Int.reduceEq, ↓reduceIte, reduceCtorEq, g64, cN]
    refine wc_ite (b := false) (by simp only [go_sem, Nat.reduceEqDiff, Nat.reduceAdd, Nat.reduceMul, Nat.reduceSub, Nat.reduceLeDiff, Int.reduceBEq, Int.reduceBNe, Int.reduceLT, Int.reduceLE, Int.reduceGT, Int.reduceGE, Int.reduceEq, ↓reduceIte, reduceCtorEq] <;> rfl) (fun h => by cases h) (fun _ => ?_)
    simp only [go_sem, Nat.reduceEqDiff, Nat.reduceAdd, Nat.reduceMul, Nat.reduceSub, Nat.reduceLeDiff, Int.reduceBEq, Int.reduceBNe, Int.reduceLT, Int.reduceLE, Int.reduceGT, Int.reduceGE, Int.reduceEq, ↓reduceIte, reduceCtorEq, g5, g9, hb]
    refine wi_call ?_
    simp only [go_sem, Nat.reduceEqDiff, Nat.reduceAdd, Nat.reduceMul, Nat.reduceSub, Nat.reduceLeDiff, Int.reduceBEq, Int.reduceBNe, Int.reduceLT, Int.reduceLE, Int.reduceGT, Int.reduceGE, Int.reduceEq, ↓reduceIte, reduceCtorEq]
    refine read_abs h (by simp) fun S1 v hv k1 => ?_
    have e : D.abs.readE [97] = 10 := by simp only [DS.readE, hA, ho', if_true, reduceCtorEq, if_false]
    rw [e]
    simp only [go_sem, Nat.reduceEqDiff, Nat.reduceAdd, Nat.reduceMul, Nat.reduceSub, Nat.reduceLeDiff, Int.reduceBEq, Int.reduceBNe, Int.reduceLT, Int.reduceLE, Int.reduceGT, Int.reduceGE, Int.reduceEq, ↓reduceIte, reduceCtorEq]
    exact hQ _ S1 D (fun k hk => by simp only [put_some]; repeat rw [if_neg (by omega)]) (by simp only [go_sem, Nat.reduceEqDiff, Nat.reduceAdd, Nat.reduceMul, Nat.reduceSub, Nat.reduceLeDiff, Int.reduceBEq, Int.reduceBNe, Int.reduceLT, Int.reduceLE, Int.reduceGT, Int.reduceGE, Int.reduceEq, ↓reduceIte, reduceCtorEq]) (h.stay k1) rfl (k1.mono fun _ _ e => e.elim) fun j hj => .inl hj

theorem diskOff_loop {w0 : World} {fr : Fr} {S : St} {i : Nat} {D : Dk} {l : List DAct} {t : Tok} {v1 : V} (h : DiskAt S i D) (ho : D.off = true) (hl : IsSlice DActR 6 v1 l t) (hs : ∀ a ∈ l, a.Small)
    (g1 : fr 1 = v1) (g5 : fr 5 = .ptr (some (i, 0))) (g8 : fr 8 = .int .i64 0) {K : CPost}
    (hK : ∀ fr' S' D', (∀ k, k < 8 → fr' k = fr k) → DiskAt S' i D' → D'.abs = D.abs → K .normal fr' S') : wCode (RSim Try.prog w0) (.loop l_l02_DiskOff_0) fr S (blkQ 0 K) := by
  obtain ⟨cs, rfl⟩ := hl.len
  refine loop_rule RSim.le (k := 50) (fun m fr1 S1 => ∃ (j : Nat) (Dj : Dk), m = 50 - j ∧ j ≤ 50 ∧ (∀ k, k < 8 → fr1 k = fr k) ∧ fr1 8 = .int .i64 j ∧ DiskAt S1 i Dj ∧ Dj.abs = D.abs) ?_
    ⟨0, D, rfl, by omega, fun _ _ => rfl, by rw [g8]; rfl, h, rfl⟩
  rintro m fr1 S1 ⟨j, Dj, hm, hj, sm, f8, d1, a1⟩
  subst hm
  have f1 : fr1 1 = .sl cs l.length 6 t := (sm 1 (by omega)).trans g1
  have f5 : fr1 5 = .ptr (some (i, 0)) := (sm 5 (by omega)).trans g5
  have ho1 : Dj.off = true := by have : Dj.abs.off = D.abs.off := by rw [a1]
                                 exact this.trans ho
  have hw : ∀ q : Nat, q < 1000 → IntKind.i64.wrap ((q : Int) + 1) = ((q + 1 : Nat) : Int) := fun q hq => by rw [w64 (by omega) (by omega)]; omega
  simp only [l_l02_DiskOff_0, go_sem, Nat.reduceEqDiff, Nat.reduceAdd, Nat.reduceMul, Nat.reduceSub, Nat.reduceLeDiff, Int.reduceBEq, Int.reduceBNe, Int.reduceLT, Int.reduceLE, Int.reduceGT, Int.reduceGE, Int.reduceEq, ↓reduceIte, reduceCtorEq, f1, f8]
  by_cases hc1 : j < l.length ∧ j < 50
  · obtain ⟨hjl, hj50⟩ := hc1
    have e1 : decide ((j : Int) < l.length) = true := decide_eq_true (by omega)
    have e2 : decide ((j : Int) < 50) = true := decide_eq_true (by omega)
    simp only [go_sem, Nat.reduceEqDiff, Nat.reduceAdd, Nat.reduceMul, Nat.reduceSub, Nat.reduceLeDiff, Int.reduceBEq, Int.reduceBNe, Int.reduceLT, Int.reduceLE, Int.reduceGT, Int.reduceGE, Int.reduceEq, ↓reduceIte, reduceCtorEq, e1, e2, f8]
    refine wc_ite (b := true) (by simp only [go_sem, Nat.reduceEqDiff, Nat.reduceAdd, Nat.reduceMul, Nat.reduceSub, Nat.reduceLeDiff, Int.reduceBEq, Int.reduceBNe, Int.reduceLT, Int.reduceLE, Int.reduceGT, Int.reduceGE, Int.reduceEq, ↓reduceIte, reduceCtorEq] <;> rfl) (fun _ => ?_) (fun h => by cases h)
    obtain ⟨cs', c, ecs, htn, _, hle, htk, hcl, ⟨d, kv, kt, rfl, hd, rfl, hkt⟩⟩ := hl.at2 (List.getElem?_eq_getElem hjl)
    injection ecs with ecs
    subst ecs
    generalize ha : l[j]'hjl = a at *
    have hsm := hs a (by rw [← ha]; exact List.getElem_mem _)
    simp only [go_sem, Nat.reduceEqDiff, Nat.reduceAdd, Nat.reduceMul, Nat.reduceSub, Nat.reduceLeDiff, Int.reduceBEq, Int.reduceBNe, Int.reduceLT, Int.reduceLE, Int.reduceGT, Int.reduceGE, Int.reduceEq, ↓reduceIte, reduceCtorEq, f1, f8, hjl, htn, hle, htk, hd.one, intsV]
    generalize hS2 : ((S1.add (.cells [.int .u8 0, .str (mkS []), .str (mkS []), .sl [] 0 1 .nil, .int .i64 0, .sl [] 0 1 .nil])).set S1.n (.cells [.int .u8 a.kind.toNat, .str (mkS a.name), .str (mkS a.to), d, .int .i64 a.n, .sl (a.keep.map (V.int .i64)) a.keep.length 1 kt])) = S2
    have k2 : Keeps (fun _ => False) S1 S2 := hS2 ▸ ((Keeps.refl _ S1).add _).set (.inr (Nat.le_refl _)) _
    have b2 : S2.cells S1.n = some [.int .u8 a.kind.toNat, .str (mkS a.name), .str (mkS a.to), d, .int .i64 a.n, .sl (a.keep.map (V.int .i64)) a.keep.length 1 kt] := by rw [← hS2, cells_setc, if_pos rfl]
    have n2 : S1.n < S2.n := by rw [← hS2]; simp only [go_sem, Nat.reduceEqDiff, Nat.reduceAdd, Nat.reduceMul, Nat.reduceSub, Nat.reduceLeDiff, Int.reduceBEq, Int.reduceBNe, Int.reduceLT, Int.reduceLE, Int.reduceGT, Int.reduceGE, Int.reduceEq, ↓reduceIte, reduceCtorEq]; omega
    clear hS2
    have d2 := d1.stay k2
    rw [u8_rem8]
    refine wc_ite (b := decide (((a.kind.toNat % 8 : Nat) : Int) ≥ 6)) (by simp only [go_sem, Nat.reduceEqDiff, Nat.reduceAdd, Nat.reduceMul, Nat.reduceSub, Nat.reduceLeDiff, Int.reduceBEq, Int.reduceBNe, Int.reduceLT, Int.reduceLE, Int.reduceGT, Int.reduceGE, Int.reduceEq, ↓reduceIte, reduceCtorEq]) (fun hc => ?_) (fun hc => ?_)
    · simp only [go_sem, Nat.reduceEqDiff, Nat.reduceAdd, Nat.reduceMul, Nat.reduceSub, Nat.reduceLeDiff, Int.reduceBEq, Int.reduceBNe, Int.reduceLT, Int.reduceLE, Int.reduceGT, Int.reduceGE, Int.reduceEq, ↓reduceIte, reduceCtorEq, f8, hw j (by omega)]
      refine ⟨50 - (j + 1), by omega, j + 1, Dj, rfl, by omega, fun k hk => ?_, by simp only [go_sem, Nat.reduceEqDiff, Nat.reduceAdd, Nat.reduceMul, Nat.reduceSub, Nat.reduceLeDiff, Int.reduceBEq, Int.reduceBNe, Int.reduceLT, Int.reduceLE, Int.reduceGT, Int.reduceGE, Int.reduceEq, ↓reduceIte, reduceCtorEq], d2, a1⟩
      try simp only [put_some]
      repeat rw [if_neg (by omega)]
      exact sm k hk
    · have hr : a.kind.toNat % 8 < 6 := by have := of_decide_eq_false hc; omega
      simp only [go_sem, Nat.reduceEqDiff, Nat.reduceAdd, Nat.reduceMul, Nat.reduceSub, Nat.reduceLeDiff, Int.reduceBEq, Int.reduceBNe, Int.reduceLT, Int.reduceLE, Int.reduceGT, Int.reduceGE, Int.reduceEq, ↓reduceIte, reduceCtorEq, b2, u8_rem8]
      refine off_switch hr d2 ho1 hd hsm.p b2 n2 (by simp only [go_sem, Nat.reduceEqDiff, Nat.reduceAdd, Nat.reduceMul, Nat.reduceSub, Nat.reduceLeDiff, Int.reduceBEq, Int.reduceBNe, Int.reduceLT, Int.reduceLE, Int.reduceGT, Int.reduceGE, Int.reduceEq, ↓reduceIte, reduceCtorEq, f5]) (by simp only [go_sem, Nat.reduceEqDiff, Nat.reduceAdd, Nat.reduceMul, Nat.reduceSub, Nat.reduceLeDiff, Int.reduceBEq, Int.reduceBNe, Int.reduceLT, Int.reduceLE, Int.reduceGT, Int.reduceGE, Int.reduceEq, ↓reduceIte, reduceCtorEq]) (by simp only [go_sem, Nat.reduceEqDiff, Nat.reduceAdd, Nat.reduceMul, Nat.reduceSub, Nat.reduceLeDiff, Int.reduceBEq, Int.reduceBNe, Int.reduceLT, Int.reduceLE, Int.reduceGT, Int.reduceGE, Int.reduceEq, ↓reduceIte, reduceCtorEq]) fun fr' S' D' sm' h10 dA aA kA oA => ?_
      have g8' := sm' 8 (by omega)
      simp only [go_sem, Nat.reduceEqDiff, Nat.reduceAdd, Nat.reduceMul, Nat.reduceSub, Nat.reduceLeDiff, Int.reduceBEq, Int.reduceBNe, Int.reduceLT, Int.reduceLE, Int.reduceGT, Int.reduceGE, Int.reduceEq, ↓reduceIte, reduceCtorEq] at g8'
      simp only [go_sem, Nat.reduceEqDiff, Nat.reduceAdd, Nat.reduceMul, Nat.reduceSub, Nat.reduceLeDiff, Int.reduceBEq, Int.reduceBNe, Int.reduceLT, Int.reduceLE, Int.reduceGT, Int.reduceGE, Int.reduceEq, ↓reduceIte, reduceCtorEq, h10]
      refine wc_ite (b := false) (by simp only [go_sem, Nat.reduceEqDiff, Nat.reduceAdd, Nat.reduceMul, Nat.reduceSub, Nat.reduceLeDiff, Int.reduceBEq, Int.reduceBNe, Int.reduceLT, Int.reduceLE, Int.reduceGT, Int.reduceGE, Int.reduceEq, ↓reduceIte, reduceCtorEq] <;> rfl) (fun h => by cases h) (fun _ => ?_)
      simp only [go_sem, Nat.reduceEqDiff, Nat.reduceAdd, Nat.reduceMul, Nat.reduceSub, Nat.reduceLeDiff, Int.reduceBEq, Int.reduceBNe, Int.reduceLT, Int.reduceLE, Int.reduceGT, Int.reduceGE, Int.reduceEq, ↓reduceIte, reduceCtorEq, g8', f8, hw j (by omega)]
      refine ⟨50 - (j + 1), by omega, j + 1, D', rfl, by omega, fun k hk => ?_, by simp only [go_sem, Nat.reduceEqDiff, Nat.reduceAdd, Nat.reduceMul, Nat.reduceSub, Nat.reduceLeDiff, Int.reduceBEq, Int.reduceBNe, Int.reduceLT, Int.reduceLE, Int.reduceGT, Int.reduceGE, Int.reduceEq, ↓reduceIte, reduceCtorEq], dA, aA.trans a1⟩
      have := sm' k (by omega)
      simp only [put_some] at this ⊢
      repeat rw [if_neg (by omega)]
      rw [this]
      repeat rw [if_neg (by omega)]
      exact sm k hk
  · have e12 : (decide ((j : Int) < l.length) && decide ((j : Int) < 50)) = false := by
      rw [Bool.and_eq_false_iff]
      by_cases h1 : j < l.length
      · exact .inr (decide_eq_false (by omega))
      · exact .inl (decide_eq_false (by omega))
    have fin : ∀ fr2 : Fr, (∀ k, k < 8 → fr2 k = fr1 k) → K .normal fr2 S1 := fun fr2 h2 => hK fr2 S1 Dj (fun k hk => (h2 k hk).trans (sm k hk)) d1 a1
    cases e1 : decide ((j : Int) < l.length) with
    | false =>
      simp only [go_sem, Nat.reduceEqDiff, Nat.reduceAdd, Nat.reduceMul, Nat.reduceSub, Nat.reduceLeDiff, Int.reduceBEq, Int.reduceBNe, Int.reduceLT, Int.reduceLE, Int.reduceGT, Int.reduceGE, Int.reduceEq, ↓reduceIte, reduceCtorEq, e1, f8]
      refine wc_ite (b := false) (by simp only [go_sem, Nat.reduceEqDiff, Nat.reduceAdd, Nat.reduceMul, Nat.reduceSub, Nat.reduceLeDiff, Int.reduceBEq, Int.reduceBNe, Int.reduceLT, Int.reduceLE, Int.reduceGT, Int.reduceGE, Int.reduceEq, ↓reduceIte, reduceCtorEq] <;> rfl) (fun h => by cases h) (fun _ => ?_)
      simp only [go_sem, Nat.reduceEqDiff, Nat.reduceAdd, Nat.reduceMul, Nat.reduceSub, Nat.reduceLeDiff, Int.reduceBEq, Int.reduceBNe, Int.reduceLT, Int.reduceLE, Int.reduceGT, Int.reduceGE, Int.reduceEq, ↓reduceIte, reduceCtorEq]
      exact fin _ fun k hk => by simp only [put_some]; repeat rw [if_neg (by omega)]
    | true =>
      rw [e1, Bool.true_and] at e12
      simp only [go_sem, Nat.reduceEqDiff, Nat.reduceAdd, Nat.reduceMul, Nat.reduceSub, Nat.reduceLeDiff, Int.reduceBEq, Int.reduceBNe, Int.reduceLT, Int.reduceLE, Int.reduceGT, Int.reduceGE, Int.reduceEq, ↓reduceIte, reduceCtorEq, e1, e12, f8]
      refine wc_ite (b := false) (by simp only [go_sem, Nat.reduceEqDiff, Nat.reduceAdd, Nat.reduceMul, Nat.reduceSub, Nat.reduceLeDiff, Int.reduceBEq, Int.reduceBNe, Int.reduceLT, Int.reduceLE, Int.reduceGT, Int.reduceGE, Int.reduceEq, ↓reduceIte, reduceCtorEq] <;> rfl) (fun h => by cases h) (fun _ => ?_)
      simp only [go_sem, Nat.reduceEqDiff, Nat.reduceAdd, Nat.reduceMul, Nat.reduceSub, Nat.reduceLeDiff, Int.reduceBEq, Int.reduceBNe, Int.reduceLT, Int.reduceLE, Int.reduceGT, Int.reduceGE, Int.reduceEq, ↓reduceIte, reduceCtorEq]
      exact fin _ fun k hk => by simp only [put_some]; repeat rw [if_neg (by omega)]

theorem one_grow {p q : List UInt8} {sure : Nat} {room used ops : Int} (h : (q.length : Int) ≤ room - used) : (⟨[⟨[97], p, sure⟩], room, used, ops, 0, false⟩ : DS).grow [97] q false = (0, ⟨[⟨[97], p ++ q, sure⟩], room, used + q.length, IntKind.i64.wrap (ops + 1), 0, false⟩) := by
  rw [grow_done (by decide) rfl (by simp) (by simp only; omega)]
  rfl
theorem none_grow {q : List UInt8} {room ops : Int} (h : (q.length : Int) ≤ room) : (⟨[], room, 0, ops, 0, false⟩ : DS).grow [97] q false = (0, ⟨[⟨[97], q, 0⟩], room, 0 + q.length, IntKind.i64.wrap (ops + 1), 0, false⟩) := by
  rw [grow_done (by decide) rfl (by simp) (by simp only; omega)]
  rfl
theorem one_sync {p : List UInt8} {sure : Nat} {room used ops : Int} : (⟨[⟨[97], p, sure⟩], room, used, ops, 0, false⟩ : DS).sync [97] = (0, ⟨[⟨[97], p, p.length⟩], room, used, IntKind.i64.wrap (ops + 1), 0, false⟩) := by
  rfl

theorem diskOff_runs {w0 : World} {p : List UInt8} {l : List DAct} {v v1 : V} {t : Tok} (hv : IsBytes v p) (hpl : p.length ≤ 1000000000000000) (hl : IsSlice DActR 6 v1 l t) (hs : ∀ a ∈ l, a.Small) {S : St} {Q : AEnd → St → Prop} (hQ : ∀ S', Q (.ret (.bool true)) S') :
    RSim Try.prog w0 n_l02_DiskOff [v, v1] S Q := by
  have hL := (hv.into S (fun _ => False)).len
  simp only [aF, Arg.ev] at hL
  refine RSim.run mixed k_l02_DiskOff ?_ (by simp)
  simp only [b_l02_DiskOff, go_sem, Nat.reduceEqDiff, Nat.reduceAdd, Nat.reduceMul, Nat.reduceSub, Nat.reduceLeDiff, Int.reduceBEq, Int.reduceBNe, Int.reduceLT, Int.reduceLE, Int.reduceGT, Int.reduceGE, Int.reduceEq, ↓reduceIte, reduceCtorEq]
  refine wi_call ?_
  simp only [go_sem, Nat.reduceEqDiff, Nat.reduceAdd, Nat.reduceMul, Nat.reduceSub, Nat.reduceLeDiff, Int.reduceBEq, Int.reduceBNe, Int.reduceLT, Int.reduceLE, Int.reduceGT, Int.reduceGE, Int.reduceEq, ↓reduceIte, reduceCtorEq]
  refine diskAwake_runs fun S1 k1 => ?_
  simp only [go_sem, Nat.reduceEqDiff, Nat.reduceAdd, Nat.reduceMul, Nat.reduceSub, Nat.reduceLeDiff, Int.reduceBEq, Int.reduceBNe, Int.reduceLT, Int.reduceLE, Int.reduceGT, Int.reduceGE, Int.reduceEq, ↓reduceIte, reduceCtorEq, hL]
  refine wc_ite (b := decide ((p.length : Int) > 500)) (by simp only [go_sem, Nat.reduceEqDiff, Nat.reduceAdd, Nat.reduceMul, Nat.reduceSub, Nat.reduceLeDiff, Int.reduceBEq, Int.reduceBNe, Int.reduceLT, Int.reduceLE, Int.reduceGT, Int.reduceGE, Int.reduceEq, ↓reduceIte, reduceCtorEq]) (fun hc => ?_) (fun hc => ?_)
  · simp only [go_sem, Nat.reduceEqDiff, Nat.reduceAdd, Nat.reduceMul, Nat.reduceSub, Nat.reduceLeDiff, Int.reduceBEq, Int.reduceBNe, Int.reduceLT, Int.reduceLE, Int.reduceGT, Int.reduceGE, Int.reduceEq, ↓reduceIte, reduceCtorEq]
    refine wi_call ?_
    simp only [go_sem, Nat.reduceEqDiff, Nat.reduceAdd, Nat.reduceMul, Nat.reduceSub, Nat.reduceLeDiff, Int.reduceBEq, Int.reduceBNe, Int.reduceLT, Int.reduceLE, Int.reduceGT, Int.reduceGE, Int.reduceEq, ↓reduceIte, reduceCtorEq]
    refine diskAwake_runs fun S2 k2 => ?_
    simp only [go_sem, Nat.reduceEqDiff, Nat.reduceAdd, Nat.reduceMul, Nat.reduceSub, Nat.reduceLeDiff, Int.reduceBEq, Int.reduceBNe, Int.reduceLT, Int.reduceLE, Int.reduceGT, Int.reduceGE, Int.reduceEq, ↓reduceIte, reduceCtorEq]
    exact hQ _
  · have hp5 : (p.length : Int) ≤ 500 := by have := of_decide_eq_false hc; omega
    simp only [go_sem, Nat.reduceEqDiff, Nat.reduceAdd, Nat.reduceMul, Nat.reduceSub, Nat.reduceLeDiff, Int.reduceBEq, Int.reduceBNe, Int.reduceLT, Int.reduceLE, Int.reduceGT, Int.reduceGE, Int.reduceEq, ↓reduceIte, reduceCtorEq]
    refine wi_call ?_
    simp only [go_sem, Nat.reduceEqDiff, Nat.reduceAdd, Nat.reduceMul, Nat.reduceSub, Nat.reduceLeDiff, Int.reduceBEq, Int.reduceBNe, Int.reduceLT, Int.reduceLE, Int.reduceGT, Int.reduceGE, Int.reduceEq, ↓reduceIte, reduceCtorEq]
    refine new_runs (fun S2 i _ _ hi d2 k2 => ?_) (fun h => by omega)
    simp only [go_sem, Nat.reduceEqDiff, Nat.reduceAdd, Nat.reduceMul, Nat.reduceSub, Nat.reduceLeDiff, Int.reduceBEq, Int.reduceBNe, Int.reduceLT, Int.reduceLE, Int.reduceGT, Int.reduceGE, Int.reduceEq, ↓reduceIte, reduceCtorEq]
    refine wi_call ?_
    simp only [go_sem, Nat.reduceEqDiff, Nat.reduceAdd, Nat.reduceMul, Nat.reduceSub, Nat.reduceLeDiff, Int.reduceBEq, Int.reduceBNe, Int.reduceLT, Int.reduceLE, Int.reduceGT, Int.reduceGE, Int.reduceEq, ↓reduceIte, reduceCtorEq]
    refine append_runs d2 (by simp) (hv.into _ _) hpl fun S3 D3 d3 a3 k3 o3 => ?_
    have A2 : (⟨S1.n, 0, [], 2000, 0, 0, 0, false⟩ : Dk).abs = ⟨[], 2000, 0, 0, 0, false⟩ := rfl
    rw [A2, none_grow (by omega)] at a3 ⊢
    simp only [go_sem, Nat.reduceEqDiff, Nat.reduceAdd, Nat.reduceMul, Nat.reduceSub, Nat.reduceLeDiff, Int.reduceBEq, Int.reduceBNe, Int.reduceLT, Int.reduceLE, Int.reduceGT, Int.reduceGE, Int.reduceEq, ↓reduceIte, reduceCtorEq]
    refine wi_call ?_
    simp only [go_sem, Nat.reduceEqDiff, Nat.reduceAdd, Nat.reduceMul, Nat.reduceSub, Nat.reduceLeDiff, Int.reduceBEq, Int.reduceBNe, Int.reduceLT, Int.reduceLE, Int.reduceGT, Int.reduceGE, Int.reduceEq, ↓reduceIte, reduceCtorEq]
    refine arm_runs d3 (fun S4 _ d4 k4 => ?_) (fun h => by omega)
    have A4 : ({ D3 with arm := 1 } : Dk).abs = ⟨[⟨[97], p, 0⟩], 2000, 0 + p.length, IntKind.i64.wrap (0 + 1), 1, false⟩ := by
      show ({ D3.abs with arm := 1 } : DS) = _
      rw [a3]
    simp only [go_sem, Nat.reduceEqDiff, Nat.reduceAdd, Nat.reduceMul, Nat.reduceSub, Nat.reduceLeDiff, Int.reduceBEq, Int.reduceBNe, Int.reduceLT, Int.reduceLE, Int.reduceGT, Int.reduceGE, Int.reduceEq, ↓reduceIte, reduceCtorEq]
    refine wi_call ?_
    simp only [go_sem, Nat.reduceEqDiff, Nat.reduceAdd, Nat.reduceMul, Nat.reduceSub, Nat.reduceLeDiff, Int.reduceBEq, Int.reduceBNe, Int.reduceLT, Int.reduceLE, Int.reduceGT, Int.reduceGE, Int.reduceEq, ↓reduceIte, reduceCtorEq]
    refine sync_runs d4 (by simp) fun S5 D5 d5 a5 k5 o5 => ?_
    rw [A4] at a5 ⊢
    have E5 : (⟨[⟨[97], p, 0⟩], 2000, 0 + (p.length : Int), IntKind.i64.wrap (0 + 1), 1, false⟩ : DS).sync [97] = (10, ⟨[⟨[97], p, 0⟩], 2000, 0 + (p.length : Int), 2, 0, true⟩) := by rfl
    rw [E5] at a5 ⊢
    have ho5 : D5.off = true := by show D5.abs.off = true; rw [a5]
    have hus5 : D5.used = 0 + (p.length : Int) := by show D5.abs.used = _; rw [a5]
    have hop5 : D5.ops = 2 := by show D5.abs.ops = _; rw [a5]
    simp only [go_sem, Nat.reduceEqDiff, Nat.reduceAdd, Nat.reduceMul, Nat.reduceSub, Nat.reduceLeDiff, Int.reduceBEq, Int.reduceBNe, Int.reduceLT, Int.reduceLE, Int.reduceGT, Int.reduceGE, Int.reduceEq, ↓reduceIte, reduceCtorEq]
    refine wi_call ?_
    simp only [go_sem, Nat.reduceEqDiff, Nat.reduceAdd, Nat.reduceMul, Nat.reduceSub, Nat.reduceLeDiff, Int.reduceBEq, Int.reduceBNe, Int.reduceLT, Int.reduceLE, Int.reduceGT, Int.reduceGE, Int.reduceEq, ↓reduceIte, reduceCtorEq]
    refine on_runs d5 ?_
    simp only [go_sem, Nat.reduceEqDiff, Nat.reduceAdd, Nat.reduceMul, Nat.reduceSub, Nat.reduceLeDiff, Int.reduceBEq, Int.reduceBNe, Int.reduceLT, Int.reduceLE, Int.reduceGT, Int.reduceGE, Int.reduceEq, ↓reduceIte, reduceCtorEq, ho5]
    refine wc_ite (b := false) (by simp only [go_sem, Nat.reduceEqDiff, Nat.reduceAdd, Nat.reduceMul, Nat.reduceSub, Nat.reduceLeDiff, Int.reduceBEq, Int.reduceBNe, Int.reduceLT, Int.reduceLE, Int.reduceGT, Int.reduceGE, Int.reduceEq, ↓reduceIte, reduceCtorEq] <;> rfl) (fun h => by cases h) (fun _ => ?_)
    simp only [go_sem, Nat.reduceEqDiff, Nat.reduceAdd, Nat.reduceMul, Nat.reduceSub, Nat.reduceLeDiff, Int.reduceBEq, Int.reduceBNe, Int.reduceLT, Int.reduceLE, Int.reduceGT, Int.reduceGE, Int.reduceEq, ↓reduceIte, reduceCtorEq]
    refine wi_call ?_
    simp only [go_sem, Nat.reduceEqDiff, Nat.reduceAdd, Nat.reduceMul, Nat.reduceSub, Nat.reduceLeDiff, Int.reduceBEq, Int.reduceBNe, Int.reduceLT, Int.reduceLE, Int.reduceGT, Int.reduceGE, Int.reduceEq, ↓reduceIte, reduceCtorEq]
    refine ops_runs d5 ?_
    simp only [go_sem, Nat.reduceEqDiff, Nat.reduceAdd, Nat.reduceMul, Nat.reduceSub, Nat.reduceLeDiff, Int.reduceBEq, Int.reduceBNe, Int.reduceLT, Int.reduceLE, Int.reduceGT, Int.reduceGE, Int.reduceEq, ↓reduceIte, reduceCtorEq]
    refine diskOff_loop d5 ho5 hl hs (by simp only [go_sem, Nat.reduceEqDiff, Nat.reduceAdd, Nat.reduceMul, Nat.reduceSub, Nat.reduceLeDiff, Int.reduceBEq, Int.reduceBNe, Int.reduceLT, Int.reduceLE, Int.reduceGT, Int.reduceGE, Int.reduceEq, ↓reduceIte, reduceCtorEq]) (by simp only [go_sem, Nat.reduceEqDiff, Nat.reduceAdd, Nat.reduceMul, Nat.reduceSub, Nat.reduceLeDiff, Int.reduceBEq, Int.reduceBNe, Int.reduceLT, Int.reduceLE, Int.reduceGT, Int.reduceGE, Int.reduceEq, ↓reduceIte, reduceCtorEq]) (by simp only [go_sem, Nat.reduceEqDiff, Nat.reduceAdd, Nat.reduceMul, Nat.reduceSub, Nat.reduceLeDiff, Int.reduceBEq, Int.reduceBNe, Int.reduceLT, Int.reduceLE, Int.reduceGT, Int.reduceGE, Int.reduceEq, ↓reduceIte, reduceCtorEq]) fun fr' S6 D6 sm d6 a6 => ?_
    have f0 := sm 0 (by omega)
    have f5 := sm 5 (by omega)
    have f7 := sm 7 (by omega)
    simp only [go_sem, Nat.reduceEqDiff, Nat.reduceAdd, Nat.reduceMul, Nat.reduceSub, Nat.reduceLeDiff, Int.reduceBEq, Int.reduceBNe, Int.reduceLT, Int.reduceLE, Int.reduceGT, Int.reduceGE, Int.reduceEq, ↓reduceIte, reduceCtorEq] at f0 f5 f7
    simp only [s_l02_DiskOff_0, go_sem, Nat.reduceEqDiff, Nat.reduceAdd, Nat.reduceMul, Nat.reduceSub, Nat.reduceLeDiff, Int.reduceBEq, Int.reduceBNe, Int.reduceLT, Int.reduceLE, Int.reduceGT, Int.reduceGE, Int.reduceEq, ↓reduceIte, reduceCtorEq, f0, f5, f7]
    refine wi_call ?_
    simp only [go_sem, Nat.reduceEqDiff, Nat.reduceAdd, Nat.reduceMul, Nat.reduceSub, Nat.reduceLeDiff, Int.reduceBEq, Int.reduceBNe, Int.reduceLT, Int.reduceLE, Int.reduceGT, Int.reduceGE, Int.reduceEq, ↓reduceIte, reduceCtorEq]
    have A6 : D6.abs = ⟨[⟨[97], p, 0⟩], 2000, 0 + (p.length : Int), 2, 0, true⟩ := a6.trans a5
    have N6 : D6.names = [[97]] := by rw [← abs_names, A6]; exact List.mergeSort_singleton _
    have L6 : D6.ents.length = 1 := by have := congrArg (fun D : DS => D.files.length) A6; simpa [Dk.abs] using this
    refine names_runs d6 (by omega) fun S7 t7 ht7 ht7' k7 => ?_
    have d7 := d6.stay k7
    have htn : t7 ≠ .nil := fun e => by have := ht7 e; rw [this] at L6; cases L6
    have hus : D6.used = (p.length : Int) := by show D6.abs.used = _; rw [A6]; simp
    have hop : D6.ops = 2 := by show D6.abs.ops = _; rw [A6]
    rw [N6]
    simp only [go_sem, Nat.reduceEqDiff, Nat.reduceAdd, Nat.reduceMul, Nat.reduceSub, Nat.reduceLeDiff, Int.reduceBEq, Int.reduceBNe, Int.reduceLT, Int.reduceLE, Int.reduceGT, Int.reduceGE, Int.reduceEq, ↓reduceIte, reduceCtorEq, strsV, f0, f5, f7]
    refine wi_call ?_
    simp only [go_sem, Nat.reduceEqDiff, Nat.reduceAdd, Nat.reduceMul, Nat.reduceSub, Nat.reduceLeDiff, Int.reduceBEq, Int.reduceBNe, Int.reduceLT, Int.reduceLE, Int.reduceGT, Int.reduceGE, Int.reduceEq, ↓reduceIte, reduceCtorEq]
    refine ops_runs d7 ?_
    simp only [go_sem, Nat.reduceEqDiff, Nat.reduceAdd, Nat.reduceMul, Nat.reduceSub, Nat.reduceLeDiff, Int.reduceBEq, Int.reduceBNe, Int.reduceLT, Int.reduceLE, Int.reduceGT, Int.reduceGE, Int.reduceEq, ↓reduceIte, reduceCtorEq, hop, hop5, f0, f5, f7, htn, Int.natCast_one, Int.toNat_zero, Nat.zero_mul, Nat.zero_lt_one]
    refine wi_call ?_
    simp only [go_sem, Nat.reduceEqDiff, Nat.reduceAdd, Nat.reduceMul, Nat.reduceSub, Nat.reduceLeDiff, Int.reduceBEq, Int.reduceBNe, Int.reduceLT, Int.reduceLE, Int.reduceGT, Int.reduceGE, Int.reduceEq, ↓reduceIte, reduceCtorEq]
    refine used_runs d7 ?_
    simp only [go_sem, Nat.reduceEqDiff, Nat.reduceAdd, Nat.reduceMul, Nat.reduceSub, Nat.reduceLeDiff, Int.reduceBEq, Int.reduceBNe, Int.reduceLT, Int.reduceLE, Int.reduceGT, Int.reduceGE, Int.reduceEq, ↓reduceIte, reduceCtorEq, hus, f0, f5, f7, hL]
    refine wi_call ?_
    simp only [go_sem, Nat.reduceEqDiff, Nat.reduceAdd, Nat.reduceMul, Nat.reduceSub, Nat.reduceLeDiff, Int.reduceBEq, Int.reduceBNe, Int.reduceLT, Int.reduceLE, Int.reduceGT, Int.reduceGE, Int.reduceEq, ↓reduceIte, reduceCtorEq]
    refine sure_abs d7 ?_
    have E7 : D6.abs.sureOf [97] = 0 := by rw [A6]; rfl
    rw [E7]
    simp only [go_sem, Nat.reduceEqDiff, Nat.reduceAdd, Nat.reduceMul, Nat.reduceSub, Nat.reduceLeDiff, Int.reduceBEq, Int.reduceBNe, Int.reduceLT, Int.reduceLE, Int.reduceGT, Int.reduceGE, Int.reduceEq, ↓reduceIte, reduceCtorEq]
    exact hQ _
end Go.VM
