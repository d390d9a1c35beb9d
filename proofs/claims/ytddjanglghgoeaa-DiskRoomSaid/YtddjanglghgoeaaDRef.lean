/-
  Lists of things of so many cells; the document's disk in the store: At, Used, op, there. NEWPP
-/
import Derived.Test.YtddjanglghgoeaaDAbs
import Derived.Test.YtddjanglghgoeaaDRCodes
set_option maxRecDepth 20000
set_option linter.unusedVariables false
set_option linter.unusedSimpArgs false
namespace Go.VM
open Go Go.RowKit Go.Proofs

section
variable {α : Type} {cell : α → List V} {sz : Nat}
theorem fm_len (h : ∀ x, (cell x).length = sz) : ∀ l : List α, (l.flatMap cell).length = l.length * sz
  | [] => by simp
  | x :: l => by rw [List.flatMap_cons, List.length_append, h, fm_len h l, List.length_cons, Nat.succ_mul]; omega
theorem fm_drop (h : ∀ x, (cell x).length = sz) : ∀ (l : List α) (j : Nat), (l.flatMap cell).drop (j * sz) = (l.drop j).flatMap cell
  | l, 0 => by simp
  | [], j + 1 => by simp
  | x :: l, j + 1 => by
    rw [List.flatMap_cons, Nat.succ_mul, Nat.add_comm, ← List.drop_drop, List.drop_left' (h x), List.drop_succ_cons]
    exact fm_drop h l j
theorem fm_take (h : ∀ x, (cell x).length = sz) : ∀ (l : List α) (j : Nat), (l.flatMap cell).take (j * sz) = (l.take j).flatMap cell
  | l, 0 => by simp
  | [], j + 1 => by simp
  | x :: l, j + 1 => by
    rw [List.flatMap_cons, Nat.succ_mul, List.take_append, List.take_of_length_le (by rw [h]; omega), h, Nat.add_sub_cancel, fm_take h l j, List.take_succ_cons, List.flatMap_cons]
theorem fm_at (h : ∀ x, (cell x).length = sz) {l : List α} {j : Nat} {x : α} (hx : l[j]? = some x) : (l.flatMap cell).drop (j * sz) = cell x ++ (l.drop (j + 1)).flatMap cell := by
  obtain ⟨hj, rfl⟩ := List.getElem?_eq_some_iff.1 hx
  rw [fm_drop h, List.drop_eq_getElem_cons hj, List.flatMap_cons]
theorem splice_right (A C vs : List V) (k : Nat) : splice (A ++ C) (A.length + k) vs = A ++ splice C k vs := by
  simp only [splice, List.take_append, List.drop_append, List.append_assoc]
  rw [List.take_of_length_le (by omega), Nat.add_sub_cancel_left, List.drop_eq_nil_of_le (by omega), List.nil_append, show A.length + k + vs.length - A.length = k + vs.length by omega]
theorem splice_left (C B vs : List V) (k : Nat) (h : k + vs.length ≤ C.length) : splice (C ++ B) k vs = splice C k vs ++ B := by
  simp only [splice, List.append_assoc]
  rw [List.take_append_of_le_length (by omega), List.drop_append_of_le_length h]
theorem fm_set (h : ∀ x, (cell x).length = sz) {l : List α} {j k : Nat} {x y : α} {vs : List V} (hx : l[j]? = some x) (hy : splice (cell x) k vs = cell y) (hk : k + vs.length ≤ sz) :
    splice (l.flatMap cell) (j * sz + k) vs = (l.set j y).flatMap cell := by
  obtain ⟨hj, rfl⟩ := List.getElem?_eq_some_iff.1 hx
  have e : l.flatMap cell = (l.take j).flatMap cell ++ (cell l[j] ++ (l.drop (j + 1)).flatMap cell) := by
    conv => lhs; rw [← List.take_append_drop j l, List.flatMap_append, List.drop_eq_getElem_cons hj, List.flatMap_cons]
  have hl : j * sz = ((l.take j).flatMap cell).length := by rw [fm_len h, List.length_take, Nat.min_eq_left (by omega)]
  rw [e, hl, splice_right, splice_left _ _ _ _ (by rw [h]; exact hk), hy, List.set_eq_take_append_cons_drop, if_pos hj, List.flatMap_append, List.flatMap_cons]
end

/-! ### The document's disk -/
structure RF where
  name : List UInt8
  v : V
  p : List UInt8
  sure : Nat
def RF.cell (f : RF) : List V := [.str (mkS f.name), f.v, .int .i64 f.sure]
theorem RF.len (f : RF) : f.cell.length = 3 := rfl
def RF.file (f : RF) : File := ⟨f.name, f.p, f.sure⟩
structure RS where
  l : List RF
  room : Int
  arm : Int
  off : Bool
  ops : Int
def rowV (o n : Nat) : V := if n = 0 then .sl [] 0 3 .nil else .msl o 0 n 3
def RS.cells (o : Nat) (R : RS) : List V := [rowV o R.l.length, .int .i64 R.room, .int .i64 R.arm, .bool R.off, .int .i64 R.ops]
structure RefAt (S : St) (x o : Nat) (R : RS) : Prop where
  head : S.cells x = some (R.cells o)
  lt : x < S.n
  row : R.l ≠ [] → S.cells o = some (R.l.flatMap RF.cell)
  olt : R.l ≠ [] → o < S.n
  ne : R.l ≠ [] → o ≠ x
  ok : ∀ f ∈ R.l, IsBytes f.v f.p
def ownR (x o : Nat) (R : RS) : Nat → Prop := fun j => j = x ∨ (R.l ≠ [] ∧ j = o)
theorem RefAt.keep {S S' : St} {x o : Nat} {R : RS} {p : Nat → Prop} (h : RefAt S x o R) (k : Keeps p S S') (hp : ∀ j, ownR x o R j → ¬ p j) : RefAt S' x o R :=
  ⟨k.cells h.head h.lt (hp _ (.inl rfl)), k.lt h.lt, fun e => k.cells (h.row e) (h.olt e) (hp _ (.inr ⟨e, rfl⟩)), fun e => k.lt (h.olt e), h.ne, h.ok⟩
theorem RefAt.stay {S S' : St} {x o : Nat} {R : RS} (h : RefAt S x o R) (k : Keeps (fun _ => False) S S') : RefAt S' x o R := h.keep k fun _ _ => id
theorem RefAt.own_lt {S : St} {x o : Nat} {R : RS} (h : RefAt S x o R) {j : Nat} (hj : ownR x o R j) : j < S.n := by
  rcases hj with rfl | ⟨e, rfl⟩
  · exact h.lt
  · exact h.olt e
theorem rowV_len (o n : Nat) (S : St) : ∀ (fr : Fr) (k : Nat), fr k = rowV o n → aF (.len .sl (.t k)) fr S = some (.int .i64 n) := by
  intro fr k h
  by_cases e : n = 0
  · subst e; simp only [aF, Arg.ev, h, rowV, if_true]
  · simp only [aF, Arg.ev, h, rowV, if_neg e]

/-- The document's disk and the other are the same. -/
structure Alike (D : DS) (R : RS) : Prop where
  mem : ∀ z, z ∈ R.l.map RF.file ↔ z ∈ D.files
  sorted : (R.l.map (·.name)).Pairwise (· < ·)
  room : R.room = D.room
  arm : R.arm = D.arm
  off : R.off = D.off
  ops : R.ops = D.ops

theorem lt_irr (a : List UInt8) : ¬ a < a := List.lt_irrefl a
theorem lt_tr {a b c : List UInt8} (h : a < b) (k : b < c) : a < c := List.lt_trans h k
theorem Alike.nodup {D : DS} {R : RS} (h : Alike D R) : (R.l.map (·.name)).Nodup := List.Pairwise.imp (fun {a b} (hab : a < b) => (fun e => by subst e; exact lt_irr _ hab : a ≠ b)) h.sorted
theorem findF_of {s : List UInt8} {x : File} : ∀ {l : List File}, (l.map (·.name)).Nodup → x ∈ l → x.name = s → findF s l = some x
  | y :: r, hn, hx, hs => by
    rw [List.map_cons, List.nodup_cons] at hn
    unfold findF
    rcases List.mem_cons.1 hx with rfl | hx
    · rw [if_pos hs]
    · have : ¬ y.name = s := fun e => hn.1 (List.mem_map.2 ⟨x, hx, by rw [hs, e]⟩)
      rw [if_neg this]
      exact findF_of hn.2 hx hs
theorem Alike.find {D : DS} {R : RS} (h : Alike D R) (hn : (D.files.map (·.name)).Nodup) (s : List UInt8) :
    (∃ (j : Nat) (f : RF), R.l[j]? = some f ∧ f.name = s ∧ (∀ (i : Nat) (g : RF), i < j → R.l[i]? = some g → g.name ≠ s) ∧ findF s D.files = some f.file) ∨ ((∀ f ∈ R.l, f.name ≠ s) ∧ findF s D.files = none) := by
  by_cases hh : ∃ f : RF, f ∈ R.l ∧ f.name = s
  · obtain ⟨f, hf, hs⟩ := hh
    obtain ⟨j, hj⟩ := List.mem_iff_getElem?.1 hf
    refine .inl ⟨j, f, hj, hs, fun i g hi hg e => ?_, findF_of hn ((h.mem _).1 (List.mem_map.2 ⟨f, hf, rfl⟩)) hs⟩
    have h1 := h.sorted
    have hi' : i < (R.l.map (·.name)).length := by rw [List.length_map]; exact (List.getElem?_eq_some_iff.1 hg).1
    have hj' : j < (R.l.map (·.name)).length := by rw [List.length_map]; exact (List.getElem?_eq_some_iff.1 hj).1
    have := List.pairwise_iff_getElem.1 h1 i j hi' hj' hi
    simp only [List.getElem_map, (List.getElem?_eq_some_iff.1 hg).2, (List.getElem?_eq_some_iff.1 hj).2, e, hs] at this
    exact lt_irr _ this
  · have hno : ∀ f ∈ R.l, f.name ≠ s := fun f hf e => hh ⟨f, hf, e⟩
    refine .inr ⟨hno, ?_⟩
    cases hx : findF s D.files with
    | none => rfl
    | some x =>
      exfalso
      have hm : ∀ {l : List File}, findF s l = some x → x ∈ l ∧ x.name = s := by
        intro l
        induction l with
        | nil => intro h; cases h
        | cons y r ih =>
          intro h
          unfold findF at h
          split at h
          · injection h with h; subst h; exact ⟨by simp, by assumption⟩
          · exact ⟨List.mem_cons_of_mem _ (ih h).1, (ih h).2⟩
      obtain ⟨h1, h2⟩ := hm hx
      obtain ⟨f, hf, e⟩ := List.mem_map.1 ((h.mem x).2 h1)
      exact hno f hf (by rw [← h2, ← e]; rfl)

/-- The names' file at a place, as the walk sees it. -/
theorem RefAt.nth {S : St} {x o : Nat} {R : RS} (h : RefAt S x o R) {j : Nat} {f : RF} (hf : R.l[j]? = some f) :
    ∃ r, R.l.length ≠ 0 ∧ rowV o R.l.length = .msl o 0 R.l.length 3 ∧ S.cells o = some (R.l.flatMap RF.cell) ∧ j < R.l.length ∧ (R.l.flatMap RF.cell).drop (j * 3) = [.str (mkS f.name), f.v, .int .i64 f.sure] ++ r ∧
      (R.l.flatMap RF.cell).drop (j * 3 + 1) = [f.v, .int .i64 f.sure] ++ r ∧ (R.l.flatMap RF.cell).drop (j * 3 + 2) = [.int .i64 f.sure] ++ r := by
  have hj := (List.getElem?_eq_some_iff.1 hf).1
  have hne : R.l ≠ [] := fun e => by rw [e] at hj; simp at hj
  have h0 : R.l.length ≠ 0 := by omega
  have e := fm_at RF.len hf
  refine ⟨(R.l.drop (j + 1)).flatMap RF.cell, h0, by unfold rowV; rw [if_neg h0], h.row hne, hj, e, ?_, ?_⟩
  · rw [← List.drop_drop, e]; rfl
  · rw [← List.drop_drop, e]; rfl

theorem refAt_runs {w0 : World} {S : St} {Q : AEnd → St → Prop} {x o : Nat} {R : RS} {s : List UInt8} (h : RefAt S x o R) (hl : R.l.length ≤ 1000000)
    (hQ : ∀ (j : Nat) (f : RF), R.l[j]? = some f → f.name = s → (∀ (i : Nat) (g : RF), i < j → R.l[i]? = some g → g.name ≠ s) → Q (.ret (.int .i64 j)) S) (hQ' : (∀ f ∈ R.l, f.name ≠ s) → Q (.ret (.int .i64 (-1))) S) :
    RSim Try.prog w0 n_r02_Disk_At [.ptr (some (x, 0)), .str (mkS s)] S Q := by
  refine RSim.run mixed k_r02_Disk_At ?_ (by simp)
  simp only [b_r02_Disk_At, go_sem, Nat.reduceEqDiff, Nat.reduceAdd, Nat.reduceMul, Nat.reduceSub, Nat.reduceLeDiff, Int.reduceBEq, Int.reduceBNe, Int.reduceLT, Int.reduceLE, Int.reduceGT, Int.reduceGE, Int.reduceEq, ↓reduceIte, reduceCtorEq]
  refine loop_rule RSim.le (k := R.l.length) (fun m fr S1 => ∃ j : Nat, m = R.l.length - j ∧ j ≤ R.l.length ∧ S1 = S ∧ fr 0 = .ptr (some (x, 0)) ∧ fr 1 = .str (mkS s) ∧ fr 5 = .int .i64 j ∧ ∀ (i : Nat) (g : RF), i < j → R.l[i]? = some g → g.name ≠ s) ?_
    ⟨0, rfl, Nat.zero_le _, rfl, by simp only [go_sem, Nat.reduceEqDiff, Nat.reduceAdd, Nat.reduceMul, Nat.reduceSub, Nat.reduceLeDiff, Int.reduceBEq, Int.reduceBNe, Int.reduceLT, Int.reduceLE, Int.reduceGT, Int.reduceGE, Int.reduceEq, ↓reduceIte, reduceCtorEq], by simp only [go_sem, Nat.reduceEqDiff, Nat.reduceAdd, Nat.reduceMul, Nat.reduceSub, Nat.reduceLeDiff, Int.reduceBEq, Int.reduceBNe, Int.reduceLT, Int.reduceLE, Int.reduceGT, Int.reduceGE, Int.reduceEq, ↓reduceIte, reduceCtorEq], by simp only [go_sem, Nat.reduceEqDiff, Nat.reduceAdd, Nat.reduceMul, Nat.reduceSub, Nat.reduceLeDiff, Int.reduceBEq, Int.reduceBNe, Int.reduceLT, Int.reduceLE, Int.reduceGT, Int.reduceGE, Int.reduceEq, ↓reduceIte, reduceCtorEq]; rfl, fun i g hi => by omega⟩
  rintro m fr S1 ⟨j, hm, hj, rfl, f0, f1, f5, hno⟩
  have hlen := rowV_len o R.l.length S1
  by_cases hlt : j < R.l.length
  · have hf : R.l[j]? = some (R.l[j]'hlt) := List.getElem?_eq_getElem hlt
    generalize R.l[j]'hlt = f at hf
    obtain ⟨r, hn0, hrow, hcs, _, hd0, _, _⟩ := h.nth hf
    have w1 : IntKind.i64.wrap ((j : Int) + 1) = ((j + 1 : Nat) : Int) := by rw [w64 (by omega) (by omega)]; omega
    have hjt : (j < R.l.length) = True := eq_true hlt
    simp only [l_r02_Disk_At_0, go_sem, Nat.reduceEqDiff, Nat.reduceAdd, Nat.reduceMul, Nat.reduceSub, Nat.reduceLeDiff, Int.reduceBEq, Int.reduceBNe, Int.reduceLT, Int.reduceLE, Int.reduceGT, Int.reduceGE, Int.reduceEq, ↓reduceIte, reduceCtorEq, f0, f1, f5, h.head, RS.cells, hrow]
    refine wc_ite (b := decide ((j : Int) < (R.l.length : Int))) (by simp only [go_sem, Nat.reduceEqDiff, Nat.reduceAdd, Nat.reduceMul, Nat.reduceSub, Nat.reduceLeDiff, Int.reduceBEq, Int.reduceBNe, Int.reduceLT, Int.reduceLE, Int.reduceGT, Int.reduceGE, Int.reduceEq, ↓reduceIte, reduceCtorEq]) (fun hc => ?_) (fun hc => ?_)
    · simp only [go_sem, Nat.reduceEqDiff, Nat.reduceAdd, Nat.reduceMul, Nat.reduceSub, Nat.reduceLeDiff, Int.reduceBEq, Int.reduceBNe, Int.reduceLT, Int.reduceLE, Int.reduceGT, Int.reduceGE, Int.reduceEq, ↓reduceIte, reduceCtorEq, f0, f1, f5, h.head, RS.cells, hrow, hcs, hjt, hd0, List.cons_append]
      refine wc_ite (b := decide (f.name = s)) (by simp only [go_sem, Nat.reduceEqDiff, Nat.reduceAdd, Nat.reduceMul, Nat.reduceSub, Nat.reduceLeDiff, Int.reduceBEq, Int.reduceBNe, Int.reduceLT, Int.reduceLE, Int.reduceGT, Int.reduceGE, Int.reduceEq, ↓reduceIte, reduceCtorEq]) (fun hc => ?_) (fun hc => ?_)
      · simp only [go_sem, Nat.reduceEqDiff, Nat.reduceAdd, Nat.reduceMul, Nat.reduceSub, Nat.reduceLeDiff, Int.reduceBEq, Int.reduceBNe, Int.reduceLT, Int.reduceLE, Int.reduceGT, Int.reduceGE, Int.reduceEq, ↓reduceIte, reduceCtorEq, f5]
        exact hQ j f hf (of_decide_eq_true hc) hno
      · have hne : ¬ f.name = s := of_decide_eq_false hc
        simp only [go_sem, Nat.reduceEqDiff, Nat.reduceAdd, Nat.reduceMul, Nat.reduceSub, Nat.reduceLeDiff, Int.reduceBEq, Int.reduceBNe, Int.reduceLT, Int.reduceLE, Int.reduceGT, Int.reduceGE, Int.reduceEq, ↓reduceIte, reduceCtorEq, f5, w1]
        refine ⟨R.l.length - (j + 1), by omega, j + 1, rfl, by omega, by simp only [go_sem, Nat.reduceEqDiff, Nat.reduceAdd, Nat.reduceMul, Nat.reduceSub, Nat.reduceLeDiff, Int.reduceBEq, Int.reduceBNe, Int.reduceLT, Int.reduceLE, Int.reduceGT, Int.reduceGE, Int.reduceEq, ↓reduceIte, reduceCtorEq, f0], by simp only [go_sem, Nat.reduceEqDiff, Nat.reduceAdd, Nat.reduceMul, Nat.reduceSub, Nat.reduceLeDiff, Int.reduceBEq, Int.reduceBNe, Int.reduceLT, Int.reduceLE, Int.reduceGT, Int.reduceGE, Int.reduceEq, ↓reduceIte, reduceCtorEq, f1], by simp only [go_sem, Nat.reduceEqDiff, Nat.reduceAdd, Nat.reduceMul, Nat.reduceSub, Nat.reduceLeDiff, Int.reduceBEq, Int.reduceBNe, Int.reduceLT, Int.reduceLE, Int.reduceGT, Int.reduceGE, Int.reduceEq, ↓reduceIte, reduceCtorEq], fun i g hi hg => ?_⟩
        rcases Nat.lt_or_ge i j with hi' | hi'
        · exact hno i g hi' hg
        · have : i = j := by omega
          subst this
          rw [hf] at hg; injection hg with hg; subst hg
          exact hne
    · have := of_decide_eq_false hc; omega
  · have e : j = R.l.length := by omega
    have hfin : ∀ f ∈ R.l, f.name ≠ s := fun f hf => by
      obtain ⟨i, hi⟩ := List.mem_iff_getElem?.1 hf
      exact hno i f (by have := (List.getElem?_eq_some_iff.1 hi).1; omega) hi
    have hcond : decide ((j : Int) < (R.l.length : Int)) = false := decide_eq_false (by omega)
    by_cases h0 : R.l.length = 0
    · have hj0 : j = 0 := by omega
      subst hj0
      simp only [l_r02_Disk_At_0, go_sem, Nat.reduceEqDiff, Nat.reduceAdd, Nat.reduceMul, Nat.reduceSub, Nat.reduceLeDiff, Int.reduceBEq, Int.reduceBNe, Int.reduceLT, Int.reduceLE, Int.reduceGT, Int.reduceGE, Int.reduceEq, ↓reduceIte, reduceCtorEq, f0, f1, f5, h.head, RS.cells, h0, rowV]
      refine wc_ite (b := false) (by simp only [go_sem, Nat.reduceEqDiff, Nat.reduceAdd, Nat.reduceMul, Nat.reduceSub, Nat.reduceLeDiff, Int.reduceBEq, Int.reduceBNe, Int.reduceLT, Int.reduceLE, Int.reduceGT, Int.reduceGE, Int.reduceEq, ↓reduceIte, reduceCtorEq] <;> rfl) (fun h => by cases h) (fun _ => ?_)
      simp only [go_sem, Nat.reduceEqDiff, Nat.reduceAdd, Nat.reduceMul, Nat.reduceSub, Nat.reduceLeDiff, Int.reduceBEq, Int.reduceBNe, Int.reduceLT, Int.reduceLE, Int.reduceGT, Int.reduceGE, Int.reduceEq, ↓reduceIte, reduceCtorEq]
      exact hQ' hfin
    · simp only [l_r02_Disk_At_0, go_sem, Nat.reduceEqDiff, Nat.reduceAdd, Nat.reduceMul, Nat.reduceSub, Nat.reduceLeDiff, Int.reduceBEq, Int.reduceBNe, Int.reduceLT, Int.reduceLE, Int.reduceGT, Int.reduceGE, Int.reduceEq, ↓reduceIte, reduceCtorEq, f0, f1, f5, h.head, RS.cells, h0, rowV]
      refine wc_ite (b := decide ((j : Int) < (R.l.length : Int))) (by simp only [go_sem, Nat.reduceEqDiff, Nat.reduceAdd, Nat.reduceMul, Nat.reduceSub, Nat.reduceLeDiff, Int.reduceBEq, Int.reduceBNe, Int.reduceLT, Int.reduceLE, Int.reduceGT, Int.reduceGE, Int.reduceEq, ↓reduceIte, reduceCtorEq]) (fun hc => ?_) (fun hc => ?_)
      · rw [hcond] at hc; cases hc
      · simp only [go_sem, Nat.reduceEqDiff, Nat.reduceAdd, Nat.reduceMul, Nat.reduceSub, Nat.reduceLeDiff, Int.reduceBEq, Int.reduceBNe, Int.reduceLT, Int.reduceLE, Int.reduceGT, Int.reduceGE, Int.reduceEq, ↓reduceIte, reduceCtorEq]
        exact hQ' hfin
end Go.VM
