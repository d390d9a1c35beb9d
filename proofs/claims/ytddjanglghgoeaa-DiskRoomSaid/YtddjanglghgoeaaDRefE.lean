/-
  The document's disk: Sync, Remove, Read. NEWPP
-/
import Derived.Test.YtddjanglghgoeaaDRefD
set_option maxRecDepth 20000
set_option linter.unusedVariables false
set_option linter.unusedSimpArgs false
namespace Go.VM
open Go Go.RowKit Go.Proofs

theorem change_noR {D : DS} {R : RS} {s : List UInt8} (a : Alike D R) (hn : (D.files.map (·.name)).Nodup) (F : DS → File → DS) (h : nameOk s = false ∨ R.off = true ∨ ∀ f ∈ R.l, f.name ≠ s) : D.change s F = (R.thereE s, D) := by
  unfold DS.change RS.thereE
  by_cases h1 : nameOk s = false
  · rw [if_pos h1, if_pos h1]
  · rw [if_neg h1, if_neg h1, a.off]
    by_cases h2 : D.off = true
    · rw [if_pos h2, if_pos h2]
    · rw [if_neg h2, if_neg h2]
      rcases a.find hn s with ⟨j, f, hf, hs, _, hx⟩ | ⟨_, hx⟩
      · exfalso
        rcases h with h | h | h
        · exact h1 h
        · exact h2 (a.off ▸ h)
        · exact h f (List.mem_of_getElem? hf) hs
      · rw [hx]
theorem change_yesR {D : DS} {R : RS} {s : List UInt8} (a : Alike D R) (hn : (D.files.map (·.name)).Nodup) (F : DS → File → DS) {j : Nat} {f : RF} (h1 : nameOk s = true) (h2 : R.off = false) (hf : R.l[j]? = some f) (hs : f.name = s) :
    D.change s F = if D.begun.off = true then (10, D.begun) else (0, F D.begun f.file) := by
  unfold DS.change
  rw [if_neg (by simp [h1]), if_neg (by rw [← a.off, h2]; simp)]
  have : findF s D.files = some f.file := findF_of hn ((a.mem _).1 (List.mem_map.2 ⟨f, List.mem_of_getElem? hf, rfl⟩)) hs
  rw [this]

theorem refSync_runs {w0 : World} {S : St} {Q : AEnd → St → Prop} {x o : Nat} {R : RS} {D : DS} {s : List UInt8} (h : RefAt S x o R) (a : Alike D R) (hn : (D.files.map (·.name)).Nodup) (hl : R.l.length ≤ 1000000) (hs : s.length ≤ 1000000000000000)
    (hQ : ∀ S' o' R', RAfter S x o R S' o' R' → Alike (D.sync s).2 R' → Q (.ret (.int .i64 (D.sync s).1)) S') : RSim Try.prog w0 n_r02_Disk_Sync [.ptr (some (x, 0)), .str (mkS s)] S Q := by
  unfold DS.sync at hQ
  refine RSim.run mixed k_r02_Disk_Sync ?_ (by simp)
  simp only [b_r02_Disk_Sync, go_sem, Nat.reduceEqDiff, Nat.reduceAdd, Nat.reduceMul, Nat.reduceSub, Nat.reduceLeDiff, Int.reduceBEq, Int.reduceBNe, Int.reduceLT, Int.reduceLE, Int.reduceGT, Int.reduceGE, Int.reduceEq, ↓reduceIte, reduceCtorEq]
  refine wi_call ?_
  simp only [go_sem, Nat.reduceEqDiff, Nat.reduceAdd, Nat.reduceMul, Nat.reduceSub, Nat.reduceLeDiff, Int.reduceBEq, Int.reduceBNe, Int.reduceLT, Int.reduceLE, Int.reduceGT, Int.reduceGE, Int.reduceEq, ↓reduceIte, reduceCtorEq]
  refine refThere_runs h hl hs (fun j f hnm ho hf hfs hno => ?_) fun hno => ?_
  · rw [change_yesR a hn _ hnm ho hf hfs] at hQ
    simp only [go_sem, Nat.reduceEqDiff, Nat.reduceAdd, Nat.reduceMul, Nat.reduceSub, Nat.reduceLeDiff, Int.reduceBEq, Int.reduceBNe, Int.reduceLT, Int.reduceLE, Int.reduceGT, Int.reduceGE, Int.reduceEq, ↓reduceIte, reduceCtorEq]
    refine wc_ite (b := false) (by simp only [go_sem, Nat.reduceEqDiff, Nat.reduceAdd, Nat.reduceMul, Nat.reduceSub, Nat.reduceLeDiff, Int.reduceBEq, Int.reduceBNe, Int.reduceLT, Int.reduceLE, Int.reduceGT, Int.reduceGE, Int.reduceEq, ↓reduceIte, reduceCtorEq] <;> rfl) (fun h => by cases h) (fun _ => ?_)
    simp only [go_sem, Nat.reduceEqDiff, Nat.reduceAdd, Nat.reduceMul, Nat.reduceSub, Nat.reduceLeDiff, Int.reduceBEq, Int.reduceBNe, Int.reduceLT, Int.reduceLE, Int.reduceGT, Int.reduceGE, Int.reduceEq, ↓reduceIte, reduceCtorEq]
    refine wi_call ?_
    simp only [go_sem, Nat.reduceEqDiff, Nat.reduceAdd, Nat.reduceMul, Nat.reduceSub, Nat.reduceLeDiff, Int.reduceBEq, Int.reduceBNe, Int.reduceLT, Int.reduceLE, Int.reduceGT, Int.reduceGE, Int.reduceEq, ↓reduceIte, reduceCtorEq]
    refine refOp_runs h ho fun S1 h1 k1 => ?_
    have A1 := RAfter.head (R := R) h1 k1 rfl
    simp only [go_sem, Nat.reduceEqDiff, Nat.reduceAdd, Nat.reduceMul, Nat.reduceSub, Nat.reduceLeDiff, Int.reduceBEq, Int.reduceBNe, Int.reduceLT, Int.reduceLE, Int.reduceGT, Int.reduceGE, Int.reduceEq, ↓reduceIte, reduceCtorEq]
    refine wc_ite (b := R.begun.off) (by simp only [go_sem, Nat.reduceEqDiff, Nat.reduceAdd, Nat.reduceMul, Nat.reduceSub, Nat.reduceLeDiff, Int.reduceBEq, Int.reduceBNe, Int.reduceLT, Int.reduceLE, Int.reduceGT, Int.reduceGE, Int.reduceEq, ↓reduceIte, reduceCtorEq]) (fun hc => ?_) (fun hc => ?_)
    · simp only [go_sem, Nat.reduceEqDiff, Nat.reduceAdd, Nat.reduceMul, Nat.reduceSub, Nat.reduceLeDiff, Int.reduceBEq, Int.reduceBNe, Int.reduceLT, Int.reduceLE, Int.reduceGT, Int.reduceGE, Int.reduceEq, ↓reduceIte, reduceCtorEq]
      rw [if_pos (by rw [← begun_off a]; exact hc)] at hQ
      exact hQ S1 o _ A1 a.begun
    · rw [if_neg (by rw [← begun_off a, hc]; simp)] at hQ
      simp only [go_sem, Nat.reduceEqDiff, Nat.reduceAdd, Nat.reduceMul, Nat.reduceSub, Nat.reduceLeDiff, Int.reduceBEq, Int.reduceBNe, Int.reduceLT, Int.reduceLE, Int.reduceGT, Int.reduceGE, Int.reduceEq, ↓reduceIte, reduceCtorEq]
      refine wi_call ?_
      simp only [go_sem, Nat.reduceEqDiff, Nat.reduceAdd, Nat.reduceMul, Nat.reduceSub, Nat.reduceLeDiff, Int.reduceBEq, Int.reduceBNe, Int.reduceLT, Int.reduceLE, Int.reduceGT, Int.reduceGE, Int.reduceEq, ↓reduceIte, reduceCtorEq]
      refine refAt_runs h1 hl (fun j' f' hf' hfs' hno' => ?_) fun hno' => absurd hfs (hno' f (List.mem_of_getElem? hf))
      have hf'' : R.begun.l[j']? = some f' := hf'
      obtain ⟨r, hn0, hrow, hcs, hjl, _, hd1, _⟩ := h1.nth hf''
      have hv := h1.ok f' (List.mem_of_getElem? hf'')
      have hL := (hv.into S1 (fun _ => False)).len
      simp only [aF, Arg.ev] at hL
      have hjt : (j' < R.begun.l.length) = True := eq_true hjl
      obtain ⟨e1, e2, A2⟩ := h1.store (f' := { f' with sure := f'.p.length }) (k := 2) (vs := [.int .i64 f'.p.length]) hf'' rfl (by simp) hv
      have e2' : (j' * 3 + 2 + 1 ≤ (R.begun.l.flatMap RF.cell).length) = True := eq_true e2
      have hh1 := h1.head
      simp only [RS.cells] at hh1
      rw [hrow] at hh1
      have al := a.begun.set (u := D.used) (by exact hn) hf'' (f' := { f' with sure := f'.p.length }) rfl
      have hq := hQ _ o _ (A1.trans A2) (by
        have : f' = f := by
          have := name_inj a.nodup hf' hf (hfs'.trans hfs.symm)
          subst this
          have hf2 : R.l[j']? = some f' := hf'
          rw [hf] at hf2; injection hf2 with e; exact e.symm
        subst this
        exact al)
      simp only [splice, List.length_cons, List.length_nil, Nat.zero_add] at e1
      simp only [go_sem, Nat.reduceEqDiff, Nat.reduceAdd, Nat.reduceMul, Nat.reduceSub, Nat.reduceLeDiff, Int.reduceBEq, Int.reduceBNe, Int.reduceLT, Int.reduceLE, Int.reduceGT, Int.reduceGE, Int.reduceEq, ↓reduceIte, reduceCtorEq, hh1, hrow, hcs, hjt, hd1, List.cons_append, hL, e2', e1]
      exact hq
  · rw [change_noR a hn _ hno] at hQ
    have hE : R.thereE s ≠ 0 := by
      unfold RS.thereE
      split
      · decide
      · split <;> decide
    have hEb : (R.thereE s != 0) = true := by simpa using hE
    simp only [go_sem, Nat.reduceEqDiff, Nat.reduceAdd, Nat.reduceMul, Nat.reduceSub, Nat.reduceLeDiff, Int.reduceBEq, Int.reduceBNe, Int.reduceLT, Int.reduceLE, Int.reduceGT, Int.reduceGE, Int.reduceEq, ↓reduceIte, reduceCtorEq, hEb]
    refine wc_ite (b := true) (by simp only [go_sem, Nat.reduceEqDiff, Nat.reduceAdd, Nat.reduceMul, Nat.reduceSub, Nat.reduceLeDiff, Int.reduceBEq, Int.reduceBNe, Int.reduceLT, Int.reduceLE, Int.reduceGT, Int.reduceGE, Int.reduceEq, ↓reduceIte, reduceCtorEq] <;> rfl) (fun _ => ?_) (fun h => by cases h)
    simp only [go_sem, Nat.reduceEqDiff, Nat.reduceAdd, Nat.reduceMul, Nat.reduceSub, Nat.reduceLeDiff, Int.reduceBEq, Int.reduceBNe, Int.reduceLT, Int.reduceLE, Int.reduceGT, Int.reduceGE, Int.reduceEq, ↓reduceIte, reduceCtorEq]
    exact hQ S o R (RAfter.refl h) a
theorem RS.thereE_ne (R : RS) (s : List UInt8) : (R.thereE s != 0) = true := by
  have hE : R.thereE s ≠ 0 := by
    unfold RS.thereE
    split
    · decide
    · split <;> decide
  simpa using hE
theorem RAfter.dropped {S S' : St} {x o o' : Nat} {R : RS} {l : List RF} (h : RefAt S' x o' { R with l := l }) (k : Keeps (fun j => j = x) S S') (ho : l ≠ [] → S.n ≤ o') : RAfter S x o R S' o' { R with l := l } :=
  ⟨h, k.mono fun j _ e => .inl e, fun j hj => hj.elim (fun e => .inl (.inl e)) fun e => .inr (e.2 ▸ ho e.1)⟩
theorem refRemove_runs {w0 : World} {S : St} {Q : AEnd → St → Prop} {x o : Nat} {R : RS} {D : DS} {s : List UInt8} (h : RefAt S x o R) (a : Alike D R) (hn : (D.files.map (·.name)).Nodup) (hl : R.l.length ≤ 1000000) (hs : s.length ≤ 1000000000000000)
    (hQ : ∀ S' o' R', RAfter S x o R S' o' R' → Alike (D.remove s).2 R' → Q (.ret (.int .i64 (D.remove s).1)) S') : RSim Try.prog w0 n_r02_Disk_Remove [.ptr (some (x, 0)), .str (mkS s)] S Q := by
  unfold DS.remove at hQ
  refine RSim.run mixed k_r02_Disk_Remove ?_ (by simp)
  simp only [b_r02_Disk_Remove, go_sem, Nat.reduceEqDiff, Nat.reduceAdd, Nat.reduceMul, Nat.reduceSub, Nat.reduceLeDiff, Int.reduceBEq, Int.reduceBNe, Int.reduceLT, Int.reduceLE, Int.reduceGT, Int.reduceGE, Int.reduceEq, ↓reduceIte, reduceCtorEq]
  refine wi_call ?_
  simp only [go_sem, Nat.reduceEqDiff, Nat.reduceAdd, Nat.reduceMul, Nat.reduceSub, Nat.reduceLeDiff, Int.reduceBEq, Int.reduceBNe, Int.reduceLT, Int.reduceLE, Int.reduceGT, Int.reduceGE, Int.reduceEq, ↓reduceIte, reduceCtorEq]
  refine refThere_runs h hl hs (fun j f hnm ho hf hfs hno => ?_) fun hno => ?_
  · rw [change_yesR a hn _ hnm ho hf hfs] at hQ
    simp only [go_sem, Nat.reduceEqDiff, Nat.reduceAdd, Nat.reduceMul, Nat.reduceSub, Nat.reduceLeDiff, Int.reduceBEq, Int.reduceBNe, Int.reduceLT, Int.reduceLE, Int.reduceGT, Int.reduceGE, Int.reduceEq, ↓reduceIte, reduceCtorEq]
    refine wc_ite (b := false) (by simp only [go_sem, Nat.reduceEqDiff, Nat.reduceAdd, Nat.reduceMul, Nat.reduceSub, Nat.reduceLeDiff, Int.reduceBEq, Int.reduceBNe, Int.reduceLT, Int.reduceLE, Int.reduceGT, Int.reduceGE, Int.reduceEq, ↓reduceIte, reduceCtorEq] <;> rfl) (fun h => by cases h) (fun _ => ?_)
    simp only [go_sem, Nat.reduceEqDiff, Nat.reduceAdd, Nat.reduceMul, Nat.reduceSub, Nat.reduceLeDiff, Int.reduceBEq, Int.reduceBNe, Int.reduceLT, Int.reduceLE, Int.reduceGT, Int.reduceGE, Int.reduceEq, ↓reduceIte, reduceCtorEq]
    refine wi_call ?_
    simp only [go_sem, Nat.reduceEqDiff, Nat.reduceAdd, Nat.reduceMul, Nat.reduceSub, Nat.reduceLeDiff, Int.reduceBEq, Int.reduceBNe, Int.reduceLT, Int.reduceLE, Int.reduceGT, Int.reduceGE, Int.reduceEq, ↓reduceIte, reduceCtorEq]
    refine refOp_runs h ho fun S1 h1 k1 => ?_
    have A1 := RAfter.head (R := R) h1 k1 rfl
    simp only [go_sem, Nat.reduceEqDiff, Nat.reduceAdd, Nat.reduceMul, Nat.reduceSub, Nat.reduceLeDiff, Int.reduceBEq, Int.reduceBNe, Int.reduceLT, Int.reduceLE, Int.reduceGT, Int.reduceGE, Int.reduceEq, ↓reduceIte, reduceCtorEq]
    refine wc_ite (b := R.begun.off) (by simp only [go_sem, Nat.reduceEqDiff, Nat.reduceAdd, Nat.reduceMul, Nat.reduceSub, Nat.reduceLeDiff, Int.reduceBEq, Int.reduceBNe, Int.reduceLT, Int.reduceLE, Int.reduceGT, Int.reduceGE, Int.reduceEq, ↓reduceIte, reduceCtorEq]) (fun hc => ?_) (fun hc => ?_)
    · simp only [go_sem, Nat.reduceEqDiff, Nat.reduceAdd, Nat.reduceMul, Nat.reduceSub, Nat.reduceLeDiff, Int.reduceBEq, Int.reduceBNe, Int.reduceLT, Int.reduceLE, Int.reduceGT, Int.reduceGE, Int.reduceEq, ↓reduceIte, reduceCtorEq]
      rw [if_pos (by rw [← begun_off a]; exact hc)] at hQ
      exact hQ S1 o _ A1 a.begun
    · rw [if_neg (by rw [← begun_off a, hc]; simp)] at hQ
      simp only [go_sem, Nat.reduceEqDiff, Nat.reduceAdd, Nat.reduceMul, Nat.reduceSub, Nat.reduceLeDiff, Int.reduceBEq, Int.reduceBNe, Int.reduceLT, Int.reduceLE, Int.reduceGT, Int.reduceGE, Int.reduceEq, ↓reduceIte, reduceCtorEq]
      refine wi_call ?_
      simp only [go_sem, Nat.reduceEqDiff, Nat.reduceAdd, Nat.reduceMul, Nat.reduceSub, Nat.reduceLeDiff, Int.reduceBEq, Int.reduceBNe, Int.reduceLT, Int.reduceLE, Int.reduceGT, Int.reduceGE, Int.reduceEq, ↓reduceIte, reduceCtorEq]
      refine refDrop_runs h1 hl fun S2 o2 h2 k2 ho2 => ?_
      simp only [go_sem, Nat.reduceEqDiff, Nat.reduceAdd, Nat.reduceMul, Nat.reduceSub, Nat.reduceLeDiff, Int.reduceBEq, Int.reduceBNe, Int.reduceLT, Int.reduceLE, Int.reduceGT, Int.reduceGE, Int.reduceEq, ↓reduceIte, reduceCtorEq]
      exact hQ S2 o2 _ (A1.trans (RAfter.dropped h2 k2 ho2)) (a.begun.drop (by exact hn) s)
  · rw [change_noR a hn _ hno] at hQ
    have hEb := R.thereE_ne s
    simp only [go_sem, Nat.reduceEqDiff, Nat.reduceAdd, Nat.reduceMul, Nat.reduceSub, Nat.reduceLeDiff, Int.reduceBEq, Int.reduceBNe, Int.reduceLT, Int.reduceLE, Int.reduceGT, Int.reduceGE, Int.reduceEq, ↓reduceIte, reduceCtorEq, hEb]
    refine wc_ite (b := true) (by simp only [go_sem, Nat.reduceEqDiff, Nat.reduceAdd, Nat.reduceMul, Nat.reduceSub, Nat.reduceLeDiff, Int.reduceBEq, Int.reduceBNe, Int.reduceLT, Int.reduceLE, Int.reduceGT, Int.reduceGE, Int.reduceEq, ↓reduceIte, reduceCtorEq] <;> rfl) (fun _ => ?_) (fun h => by cases h)
    simp only [go_sem, Nat.reduceEqDiff, Nat.reduceAdd, Nat.reduceMul, Nat.reduceSub, Nat.reduceLeDiff, Int.reduceBEq, Int.reduceBNe, Int.reduceLT, Int.reduceLE, Int.reduceGT, Int.reduceGE, Int.reduceEq, ↓reduceIte, reduceCtorEq]
    exact hQ S o R (RAfter.refl h) a

theorem refRead_runs {w0 : World} {S : St} {Q : AEnd → St → Prop} {x o : Nat} {R : RS} {D : DS} {s : List UInt8} (h : RefAt S x o R) (a : Alike D R) (hn : (D.files.map (·.name)).Nodup) (hl : R.l.length ≤ 1000000) (hs : s.length ≤ 1000000000000000)
    (hQ : ∀ v, IsBytes v (D.bytes s) → Q (.ret (.tup [v, .int .i64 (D.readE s)])) S) : RSim Try.prog w0 n_r02_Disk_Read [.ptr (some (x, 0)), .str (mkS s)] S Q := by
  refine RSim.run mixed k_r02_Disk_Read ?_ (by simp)
  simp only [b_r02_Disk_Read, go_sem, Nat.reduceEqDiff, Nat.reduceAdd, Nat.reduceMul, Nat.reduceSub, Nat.reduceLeDiff, Int.reduceBEq, Int.reduceBNe, Int.reduceLT, Int.reduceLE, Int.reduceGT, Int.reduceGE, Int.reduceEq, ↓reduceIte, reduceCtorEq]
  refine wi_call ?_
  simp only [go_sem, Nat.reduceEqDiff, Nat.reduceAdd, Nat.reduceMul, Nat.reduceSub, Nat.reduceLeDiff, Int.reduceBEq, Int.reduceBNe, Int.reduceLT, Int.reduceLE, Int.reduceGT, Int.reduceGE, Int.reduceEq, ↓reduceIte, reduceCtorEq]
  refine refThere_runs h hl hs (fun j f hnm ho hf hfs hno => ?_) fun hno => ?_
  · have hx : findF s D.files = some f.file := findF_of hn ((a.mem _).1 (List.mem_map.2 ⟨f, List.mem_of_getElem? hf, rfl⟩)) hfs
    have ho' : D.off = false := a.off ▸ ho
    simp only [DS.bytes, DS.readE, hnm, ho', hx, if_false, reduceCtorEq] at hQ
    have hh := h.head
    simp only [RS.cells] at hh
    obtain ⟨r, hn0, hrow, hcs, hjl, _, hd1, _⟩ := h.nth hf
    rw [hrow] at hh
    have hjt : (j < R.l.length) = True := eq_true hjl
    simp only [go_sem, Nat.reduceEqDiff, Nat.reduceAdd, Nat.reduceMul, Nat.reduceSub, Nat.reduceLeDiff, Int.reduceBEq, Int.reduceBNe, Int.reduceLT, Int.reduceLE, Int.reduceGT, Int.reduceGE, Int.reduceEq, ↓reduceIte, reduceCtorEq]
    refine wc_ite (b := false) (by simp only [go_sem, Nat.reduceEqDiff, Nat.reduceAdd, Nat.reduceMul, Nat.reduceSub, Nat.reduceLeDiff, Int.reduceBEq, Int.reduceBNe, Int.reduceLT, Int.reduceLE, Int.reduceGT, Int.reduceGE, Int.reduceEq, ↓reduceIte, reduceCtorEq] <;> rfl) (fun h => by cases h) (fun _ => ?_)
    simp only [go_sem, Nat.reduceEqDiff, Nat.reduceAdd, Nat.reduceMul, Nat.reduceSub, Nat.reduceLeDiff, Int.reduceBEq, Int.reduceBNe, Int.reduceLT, Int.reduceLE, Int.reduceGT, Int.reduceGE, Int.reduceEq, ↓reduceIte, reduceCtorEq, hh]
    refine wi_call ?_
    simp only [go_sem, Nat.reduceEqDiff, Nat.reduceAdd, Nat.reduceMul, Nat.reduceSub, Nat.reduceLeDiff, Int.reduceBEq, Int.reduceBNe, Int.reduceLT, Int.reduceLE, Int.reduceGT, Int.reduceGE, Int.reduceEq, ↓reduceIte, reduceCtorEq]
    refine refAt_runs h hl (fun j' f' hf' hfs' hno' => ?_) fun hno' => absurd hfs (hno' f (List.mem_of_getElem? hf))
    have e : j' = j := name_inj a.nodup hf' hf (hfs'.trans hfs.symm)
    subst e
    simp only [go_sem, Nat.reduceEqDiff, Nat.reduceAdd, Nat.reduceMul, Nat.reduceSub, Nat.reduceLeDiff, Int.reduceBEq, Int.reduceBNe, Int.reduceLT, Int.reduceLE, Int.reduceGT, Int.reduceGE, Int.reduceEq, ↓reduceIte, reduceCtorEq, hh, hcs, hjt, hd1, List.cons_append]
    exact hQ f.v (h.ok f (List.mem_of_getElem? hf))
  · have hEb := R.thereE_ne s
    have hq := hQ (.sl [] 0 1 .nil)
    have e : D.bytes s = [] ∧ D.readE s = R.thereE s := by
      unfold DS.bytes DS.readE RS.thereE
      rw [a.off]
      by_cases h1 : nameOk s = false
      · simp [h1]
      · by_cases h2 : D.off = true
        · simp [h1, h2]
        · have h3 : findF s D.files = none := by
            rcases a.find hn s with ⟨j, f, hf, hs, _, hx⟩ | ⟨_, hx⟩
            · exfalso
              rcases hno with h | h | h
              · exact h1 h
              · exact h2 (a.off ▸ h)
              · exact h f (List.mem_of_getElem? hf) hs
            · exact hx
          simp [h1, h2, h3]
    rw [e.1, e.2] at hq
    simp only [go_sem, Nat.reduceEqDiff, Nat.reduceAdd, Nat.reduceMul, Nat.reduceSub, Nat.reduceLeDiff, Int.reduceBEq, Int.reduceBNe, Int.reduceLT, Int.reduceLE, Int.reduceGT, Int.reduceGE, Int.reduceEq, ↓reduceIte, reduceCtorEq, hEb]
    refine wc_ite (b := true) (by simp only [go_sem, Nat.reduceEqDiff, Nat.reduceAdd, Nat.reduceMul, Nat.reduceSub, Nat.reduceLeDiff, Int.reduceBEq, Int.reduceBNe, Int.reduceLT, Int.reduceLE, Int.reduceGT, Int.reduceGE, Int.reduceEq, ↓reduceIte, reduceCtorEq] <;> rfl) (fun _ => ?_) (fun h => by cases h)
    simp only [go_sem, Nat.reduceEqDiff, Nat.reduceAdd, Nat.reduceMul, Nat.reduceSub, Nat.reduceLeDiff, Int.reduceBEq, Int.reduceBNe, Int.reduceLT, Int.reduceLE, Int.reduceGT, Int.reduceGE, Int.reduceEq, ↓reduceIte, reduceCtorEq]
    exact hq isBytes_nil
end Go.VM
