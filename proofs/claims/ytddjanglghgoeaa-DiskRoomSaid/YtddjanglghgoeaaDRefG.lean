/-
  The document's disk: Restart. NEWPP
-/
import Derived.Test.YtddjanglghgoeaaDRefF
set_option maxRecDepth 20000
set_option linter.unusedVariables false
set_option linter.unusedSimpArgs false
namespace Go.VM
open Go Go.RowKit Go.Proofs

theorem mem_stepR {keep : List Int} {D : DS} (hn : (D.files.map (·.name)).Nodup) (j : Nat) (s : List UInt8) : ∀ z, z ∈ (stepR keep D j s).files ↔ (z ∈ D.files ∧ z.name ≠ s) ∨ ∃ x, x ∈ D.files ∧ x.name = s ∧ z = cutF keep j x := by
  intro z
  unfold stepR
  cases hx : findF s D.files with
  | none =>
    have hno : ∀ y ∈ D.files, y.name ≠ s := fun y hy e => by rw [findF_of hn hy e] at hx; cases hx
    constructor
    · exact fun h => .inl ⟨h, hno z h⟩
    · rintro (h | ⟨y, hy, e, _⟩)
      · exact h.1
      · exact absurd e (hno y hy)
  | some x =>
    obtain ⟨hm, hs⟩ := findF_mem' hx
    show z ∈ putF (cutF keep j x) D.files ↔ _
    rw [mem_putF hn]
    constructor
    · rintro (rfl | ⟨h1, h2⟩)
      · exact .inr ⟨x, hm, hs, rfl⟩
      · exact .inl ⟨h1, fun e => h2 (e.trans hs.symm)⟩
    · rintro (⟨h1, h2⟩ | ⟨y, hy, e, rfl⟩)
      · exact .inr ⟨h1, fun e => h2 (e.trans hs)⟩
      · have := findF_of hn hy e
        rw [hx] at this; injection this with this; subst this
        exact .inl rfl
theorem nd_stepR {keep : List Int} {D : DS} (hn : (D.files.map (·.name)).Nodup) (j : Nat) (s : List UInt8) : ((stepR keep D j s).files.map (·.name)).Nodup := by
  unfold stepR
  split
  · exact nd_putF' hn
  · exact hn
theorem mem_runR {keep : List Int} : ∀ (ns : List (List UInt8)) (j : Nat) (D : DS), (D.files.map (·.name)).Nodup → ns.Nodup → ∀ z, z ∈ (runR keep j ns D).files ↔ (z ∈ D.files ∧ z.name ∉ ns) ∨ ∃ i x, ns[i]? = some x.name ∧ x ∈ D.files ∧ z = cutF keep (j + i) x
  | [], j, D, hn, _, z => by simp [runR]
  | s :: r, j, D, hn, hns, z => by
    rw [List.nodup_cons] at hns
    unfold runR
    rw [mem_runR r (j + 1) _ (nd_stepR hn j s) hns.2 z]
    have hstep := mem_stepR (keep := keep) hn j s
    constructor
    · rintro (⟨h1, h2⟩ | ⟨i, x, hi, hx, rfl⟩)
      · rcases (hstep z).1 h1 with ⟨h3, h4⟩ | ⟨x, hx, e, rfl⟩
        · exact .inl ⟨h3, by rw [List.mem_cons, not_or]; exact ⟨h4, h2⟩⟩
        · exact .inr ⟨0, x, by rw [e]; rfl, hx, rfl⟩
      · rcases (hstep x).1 hx with ⟨h3, h4⟩ | ⟨y, hy, e, rfl⟩
        · exact .inr ⟨i + 1, x, hi, h3, by rw [show j + (i + 1) = j + 1 + i by omega]⟩
        · exact absurd (by rw [← e]; exact List.mem_of_getElem? hi) hns.1
    · rintro (⟨h1, h2⟩ | ⟨i, x, hi, hx, rfl⟩)
      · rw [List.mem_cons, not_or] at h2
        exact .inl ⟨(hstep z).2 (.inl ⟨h1, h2.1⟩), h2.2⟩
      · cases i with
        | zero =>
          have e : x.name = s := by simpa using hi.symm
          exact .inl ⟨(hstep _).2 (.inr ⟨x, hx, e, rfl⟩), by show x.name ∉ r; rw [e]; exact hns.1⟩
        | succ i =>
          have hi : r[i]? = some x.name := hi
          refine .inr ⟨i, x, hi, (hstep x).2 (.inl ⟨hx, fun e => ?_⟩), by rw [show j + 1 + i = j + (i + 1) by omega]⟩
          exact hns.1 (e ▸ List.mem_of_getElem? hi)
theorem runR_same {keep : List Int} : ∀ (ns : List (List UInt8)) (j : Nat) (D : DS), (runR keep j ns D).room = D.room ∧ (runR keep j ns D).ops = D.ops
  | [], j, D => ⟨rfl, rfl⟩
  | s :: r, j, D => by
    unfold runR
    have := runR_same (keep := keep) r (j + 1) (stepR keep D j s)
    rw [this.1, this.2]
    unfold stepR
    split <;> exact ⟨rfl, rfl⟩
theorem Alike.restart {D : DS} {R : RS} (a : Alike D R) (hn : (D.files.map (·.name)).Nodup) (keep : List Int) {l : List RF} (hlen : l.length = R.l.length) (hcut : ∀ (i : Nat) (f : RF), R.l[i]? = some f → ∃ f' : RF, l[i]? = some f' ∧ f'.file = cutF keep i f.file) :
    Alike (D.restart keep) { R with l := l, off := false, arm := 0 } := by
  have hnames := a.names hn
  have hnd : D.names.Nodup := by rw [hnames]; exact a.nodup
  have key := mem_runR (keep := keep) D.names 0 D hn hnd
  have hs := runR_same (keep := keep) D.names 0 D
  have hnm : l.map (·.name) = R.l.map (·.name) := by
    refine List.ext_getElem? fun i => ?_
    rw [List.getElem?_map, List.getElem?_map]
    cases hi : R.l[i]? with
    | none =>
      have : l[i]? = none := by
        rw [List.getElem?_eq_none_iff] at hi ⊢
        omega
      rw [this]
    | some f =>
      obtain ⟨f', h1, h2⟩ := hcut i f hi
      rw [h1]
      have : f'.name = f.name := congrArg File.name h2
      simp [this]
  refine ⟨fun z => ?_, ?_, a.room.trans hs.1.symm, rfl, rfl, a.ops.trans hs.2.symm⟩
  · show z ∈ l.map RF.file ↔ z ∈ (runR keep 0 D.names D).files
    rw [key, hnames]
    constructor
    · intro hz
      obtain ⟨g, hg, rfl⟩ := List.mem_map.1 hz
      obtain ⟨i, hi⟩ := List.mem_iff_getElem?.1 hg
      have hlt : i < R.l.length := by have := (List.getElem?_eq_some_iff.1 hi).1; omega
      have hf : R.l[i]? = some (R.l[i]'hlt) := List.getElem?_eq_getElem hlt
      obtain ⟨f', h1, h2⟩ := hcut i _ hf
      rw [hi] at h1; injection h1 with h1; subst h1
      refine .inr ⟨i, (R.l[i]'hlt).file, ?_, (a.mem _).1 (List.mem_map.2 ⟨_, List.getElem_mem _, rfl⟩), by rw [h2, Nat.zero_add]⟩
      rw [List.getElem?_map, hf]; rfl
    · rintro (⟨h1, h2⟩ | ⟨i, x, hi, hx, rfl⟩)
      · exfalso
        obtain ⟨f, hf, rfl⟩ := List.mem_map.1 ((a.mem z).2 h1)
        exact h2 (List.mem_map.2 ⟨f, hf, rfl⟩)
      · rw [List.getElem?_map] at hi
        obtain ⟨f, hf, e⟩ := Option.map_eq_some_iff.1 hi
        obtain ⟨f', h1, h2⟩ := hcut i f hf
        have hff : f.file = x := by
          have h3 := findF_of hn hx rfl
          have h4 := findF_of hn ((a.mem _).1 (List.mem_map.2 ⟨f, List.mem_of_getElem? hf, rfl⟩)) e
          rw [h3] at h4; injection h4 with h4; exact h4.symm
        rw [Nat.zero_add, ← hff, ← h2]
        exact List.mem_map.2 ⟨f', List.mem_of_getElem? h1, rfl⟩
  · show (l.map (·.name)).Pairwise (· < ·)
    rw [hnm]; exact a.sorted

theorem refRestart_cut {w0 : World} {fr : Fr} {S : St} {x o j b n : Nat} {R : RS} {f : RF} {K : CPost} (h : RefAt S x o R) (hf : R.l[j]? = some f) (hnl : n ≤ f.p.length) (hb : S.cells b = some f.cell) (hbo : b ≠ o)
    (f0 : fr 0 = .ptr (some (x, 0))) (f4 : fr 4 = .int .i64 j) (f5 : fr 5 = .ptr (some (b, 0))) (f6 : fr 6 = .int .i64 (n : Nat))
    (hK : ∀ fr' S' v', (∀ i, i < 56 → fr' i = fr i) → IsBytes v' (f.p.take n) → RAfter S x o R S' o { R with l := R.l.set j ⟨f.name, v', f.p.take n, n⟩ } → K .normal fr' S') :
    wCode (RSim Try.prog w0) r_r02_Disk_Restart_0 fr S K := by
  obtain ⟨r, hn0, hrow, hcs, hjl, hd0, hd1, hd2⟩ := h.nth hf
  have hjt : (j < R.l.length) = True := eq_true hjl
  have hv := h.ok f (List.mem_of_getElem? hf)
  obtain ⟨vc, sc, bc⟩ := hv.cutHi hnl 63
  have hh := h.head
  simp only [RS.cells] at hh
  rw [hrow] at hh
  simp only [RF.cell] at hb
  obtain ⟨e1, e2, A1⟩ := h.store (f' := ⟨f.name, vc, f.p.take n, f.sure⟩) (k := 1) (vs := [vc]) hf rfl (by simp) bc
  have e2' : (j * 3 + 1 + 1 ≤ (R.l.flatMap RF.cell).length) = True := eq_true e2
  have hf2 : (R.l.set j ⟨f.name, vc, f.p.take n, f.sure⟩)[j]? = some ⟨f.name, vc, f.p.take n, f.sure⟩ := by rw [List.getElem?_set, if_pos rfl, if_pos hjl]
  obtain ⟨e3, e4, A2⟩ := A1.r.store (f' := ⟨f.name, vc, f.p.take n, n⟩) (k := 2) (vs := [.int .i64 n]) hf2 rfl (by simp) bc
  have e4' : (j * 3 + 2 + 1 ≤ ((R.l.set j ⟨f.name, vc, f.p.take n, f.sure⟩).flatMap RF.cell).length) = True := eq_true e4
  have hx : ¬ x = o := Ne.symm (h.ne fun e => hn0 (by rw [e]; rfl))
  simp only [splice, List.length_cons, List.length_nil, Nat.zero_add] at e1 e3
  simp only [r_r02_Disk_Restart_0, go_sem, Nat.reduceEqDiff, Nat.reduceAdd, Nat.reduceMul, Nat.reduceSub, Nat.reduceLeDiff, Int.reduceBEq, Int.reduceBNe, Int.reduceLT, Int.reduceLE, Int.reduceGT, Int.reduceGE, Int.reduceEq, ↓reduceIte, reduceCtorEq, f0, f4, f5, f6, hh, hb, sc, hjt, hcs, bc.one, bc.cells1, e2', e1, hx]
  simp only [go_sem, Nat.reduceEqDiff, Nat.reduceAdd, Nat.reduceMul, Nat.reduceSub, Nat.reduceLeDiff, Int.reduceBEq, Int.reduceBNe, Int.reduceLT, Int.reduceLE, Int.reduceGT, Int.reduceGE, Int.reduceEq, ↓reduceIte, reduceCtorEq, f0, f4, f6, hx, hh, hjt, e4', e3]
  have A := A1.trans A2
  simp only [St.set_set, List.set_set] at A ⊢
  refine hK _ _ vc (fun i hi => ?_) bc A
  try simp only [put_some]
  repeat rw [if_neg (by omega)]

theorem keepI_val {keep : List Int} {j : Nat} {k : Int} (hk : keep[j]? = some k) (f : RF) (h : f.sure ≤ f.p.length) :
    (k > 0 → k > (f.p.length : Int) - f.sure → keepI keep j f.file = (f.p.length : Int) - f.sure) ∧ (k > 0 → ¬ k > (f.p.length : Int) - f.sure → keepI keep j f.file = k) ∧ (¬ k > 0 → keepI keep j f.file = 0) := by
  unfold keepI
  rw [hk]
  simp only [RF.file]
  refine ⟨fun a b => ?_, fun a b => ?_, fun a => ?_⟩
  all_goals (repeat' split)
  all_goals omega

theorem refRestart_runs {w0 : World} {S : St} {Q : AEnd → St → Prop} {x o : Nat} {R : RS} {keep : List Int} {kt : Tok} (h : RefAt S x o R) (hl : R.l.length ≤ 1000000) (hsz : ∀ f ∈ R.l, f.sure ≤ f.p.length ∧ f.p.length ≤ 1000000000) (hkn : kt = .nil → keep = [])
    (hQ : ∀ S' R', RAfter S x o R S' o R' → (∀ D : DS, Alike D R → (D.files.map (·.name)).Nodup → Alike (D.restart keep) R') → Q (.ret (.tup [])) S') : RSim Try.prog w0 n_r02_Disk_Restart [.ptr (some (x, 0)), intsV keep kt] S Q := by
  refine RSim.run mixed k_r02_Disk_Restart ?_ (by simp)
  simp only [b_r02_Disk_Restart, go_sem, Nat.reduceEqDiff, Nat.reduceAdd, Nat.reduceMul, Nat.reduceSub, Nat.reduceLeDiff, Int.reduceBEq, Int.reduceBNe, Int.reduceLT, Int.reduceLE, Int.reduceGT, Int.reduceGE, Int.reduceEq, ↓reduceIte, reduceCtorEq]
  refine loop_rule RSim.le (k := R.l.length) (fun m fr S1 => ∃ (j : Nat) (l : List RF), m = R.l.length - j ∧ j ≤ R.l.length ∧ fr 0 = .ptr (some (x, 0)) ∧ fr 1 = intsV keep kt ∧ fr 4 = .int .i64 j ∧ RAfter S x o R S1 o { R with l := l } ∧ l.length = R.l.length ∧
      ∀ (i : Nat) (f : RF), R.l[i]? = some f → ∃ f' : RF, l[i]? = some f' ∧ (i < j → f'.file = cutF keep i f.file) ∧ (j ≤ i → f' = f)) ?_
    ⟨0, R.l, rfl, Nat.zero_le _, by simp only [go_sem, Nat.reduceEqDiff, Nat.reduceAdd, Nat.reduceMul, Nat.reduceSub, Nat.reduceLeDiff, Int.reduceBEq, Int.reduceBNe, Int.reduceLT, Int.reduceLE, Int.reduceGT, Int.reduceGE, Int.reduceEq, ↓reduceIte, reduceCtorEq], by simp only [go_sem, Nat.reduceEqDiff, Nat.reduceAdd, Nat.reduceMul, Nat.reduceSub, Nat.reduceLeDiff, Int.reduceBEq, Int.reduceBNe, Int.reduceLT, Int.reduceLE, Int.reduceGT, Int.reduceGE, Int.reduceEq, ↓reduceIte, reduceCtorEq], by simp only [go_sem, Nat.reduceEqDiff, Nat.reduceAdd, Nat.reduceMul, Nat.reduceSub, Nat.reduceLeDiff, Int.reduceBEq, Int.reduceBNe, Int.reduceLT, Int.reduceLE, Int.reduceGT, Int.reduceGE, Int.reduceEq, ↓reduceIte, reduceCtorEq]; rfl, RAfter.refl h, rfl, fun i f hf => ⟨f, hf, fun h => by omega, fun _ => rfl⟩⟩
  rintro m fr S1 ⟨j, l, hm, hj, f0, f1, f4, A, hll, hcut⟩
  have h1 := A.r
  have hh := h1.head
  simp only [RS.cells] at hh
  by_cases hlt : j < R.l.length
  · have hf : R.l[j]? = some (R.l[j]'hlt) := List.getElem?_eq_getElem hlt
    generalize R.l[j]'hlt = f at hf
    obtain ⟨f', hf', _, hff⟩ := hcut j f hf
    have := hff (Nat.le_refl _)
    subst this
    obtain ⟨hsu, hpl⟩ := hsz f' (List.mem_of_getElem? hf)
    obtain ⟨r, hn0, hrow, hcs, hjl, hd0, hd1, hd2⟩ := h1.nth (R := { R with l := l }) hf'
    simp only at hn0 hrow hcs hjl hd0
    rw [hrow] at hh
    have hv := h1.ok f' (List.mem_of_getElem? hf')
    have hL := (hv.into S1 (fun _ => False)).len
    simp only [aF, Arg.ev] at hL
    have hjt : (j < l.length) = True := eq_true hjl
    have hjb : decide ((j : Int) < (l.length : Int)) = true := decide_eq_true (by omega)
    have hr3 : (3 ≤ r.length + 1 + 1 + 1) = True := eq_true (by omega)
    have w1 : IntKind.i64.wrap ((j : Int) + 1) = ((j + 1 : Nat) : Int) := by rw [w64 (by omega) (by omega)]; omega
    have w2 : IntKind.i64.wrap ((f'.p.length : Int) - f'.sure) = (f'.p.length : Int) - f'.sure := w64 (by omega) (by omega)
    have hx1 : ¬ x = S1.n := by have := h1.lt; omega
    have ho1 : o < S1.n := h1.olt (fun e => hn0 (by simp only at e; rw [e]; rfl))
    have ho2 : ¬ o = S1.n := by omega
    simp only [l_r02_Disk_Restart_0, go_sem, Nat.reduceEqDiff, Nat.reduceAdd, Nat.reduceMul, Nat.reduceSub, Nat.reduceLeDiff, Int.reduceBEq, Int.reduceBNe, Int.reduceLT, Int.reduceLE, Int.reduceGT, Int.reduceGE, Int.reduceEq, ↓reduceIte, reduceCtorEq, f0, f4, hh, hjb]
    refine wc_ite (b := true) (by simp only [go_sem, Nat.reduceEqDiff, Nat.reduceAdd, Nat.reduceMul, Nat.reduceSub, Nat.reduceLeDiff, Int.reduceBEq, Int.reduceBNe, Int.reduceLT, Int.reduceLE, Int.reduceGT, Int.reduceGE, Int.reduceEq, ↓reduceIte, reduceCtorEq] <;> rfl) (fun _ => ?_) (fun h => by cases h)
    simp only [k_r02_Disk_Restart_0, go_sem, Nat.reduceEqDiff, Nat.reduceAdd, Nat.reduceMul, Nat.reduceSub, Nat.reduceLeDiff, Int.reduceBEq, Int.reduceBNe, Int.reduceLT, Int.reduceLE, Int.reduceGT, Int.reduceGE, Int.reduceEq, ↓reduceIte, reduceCtorEq, f0, f1, f4, hh, hcs, hjt, hd0, List.cons_append, List.nil_append, hr3, hx1, ho2, hv.one, hv.cells1, V.cells_agg]
    generalize hS2 : (S1.add (.cells [.str (mkS []), .sl [] 0 1 .nil, .int .i64 0])).set S1.n (.cells [.str (mkS f'.name), f'.v, .int .i64 f'.sure]) = S2
    have k2 : Keeps (fun _ => False) S1 S2 := hS2 ▸ ((Keeps.refl _ S1).add _).set (.inr (Nat.le_refl _)) _
    have b2 : S2.cells S1.n = some f'.cell := by rw [← hS2, cells_setc, if_pos rfl]; rfl
    have b2' := b2
    simp only [RF.cell] at b2'
    have A2 : RAfter S x o R S2 o { R with l := l } := ⟨h1.stay k2, A.k.trans k2 fun _ _ e => e.elim, A.o⟩
    have tail : ∀ (fr2 : Fr) (n : Nat) (K : CPost), n = f'.sure + (keepI keep j f'.file).toNat → fr2 0 = .ptr (some (x, 0)) → fr2 1 = intsV keep kt → fr2 4 = .int .i64 j → fr2 5 = .ptr (some (S1.n, 0)) → fr2 6 = .int .i64 (n : Nat) →
        (∀ fr3 S3 l3, fr3 0 = .ptr (some (x, 0)) → fr3 1 = intsV keep kt → fr3 4 = .int .i64 j → RAfter S x o R S3 o { R with l := l3 } → l3.length = R.l.length →
          (∀ (i : Nat) (f : RF), R.l[i]? = some f → ∃ f' : RF, l3[i]? = some f' ∧ (i < j + 1 → f'.file = cutF keep i f.file) ∧ (j + 1 ≤ i → f' = f)) → K .normal fr3 S3) →
        wCode (RSim Try.prog w0) r_r02_Disk_Restart_0 fr2 S2 K := by
      intro fr2 n K hn g0 g1 g4 g5 g6 hK
      have hle := keepI_le keep j f'.file hsu
      have hnl : n ≤ f'.p.length := by
        have : (f'.file.p.length : Int) = f'.p.length := rfl
        have : (f'.file.sure : Int) = f'.sure := rfl
        omega
      refine refRestart_cut (R := { R with l := l }) A2.r hf' hnl b2 (by omega) g0 g4 g5 g6 fun fr3 S3 v3 sm hv3 A3 => ?_
      refine hK fr3 S3 _ ((sm 0 (by omega)).trans g0) ((sm 1 (by omega)).trans g1) ((sm 4 (by omega)).trans g4) (A2.trans A3) (by rw [List.length_set]; exact hll) fun i g hg => ?_
      rw [List.getElem?_set]
      by_cases hij : j = i
      · subst hij
        rw [hf] at hg; injection hg with hg; subst hg
        rw [if_pos rfl, if_pos hjl]
        refine ⟨_, rfl, fun _ => ?_, fun e => by omega⟩
        rw [hn]; rfl
      · rw [if_neg hij]
        obtain ⟨g', a1, a2, a3⟩ := hcut i g hg
        exact ⟨g', a1, fun e => a2 (by omega), fun e => a3 (by omega)⟩
    cases hk : keep[j]? with
    | none =>
      have hge : keep.length ≤ j := List.getElem?_eq_none_iff.1 hk
      have hb : decide ((j : Int) < (keep.length : Int)) = false := decide_eq_false (by omega)
      have hI : keepI keep j f'.file = 0 := by unfold keepI; rw [hk]
      simp only [go_sem, Nat.reduceEqDiff, Nat.reduceAdd, Nat.reduceMul, Nat.reduceSub, Nat.reduceLeDiff, Int.reduceBEq, Int.reduceBNe, Int.reduceLT, Int.reduceLE, Int.reduceGT, Int.reduceGE, Int.reduceEq, ↓reduceIte, reduceCtorEq, intsV, b2', hb, f1, f4]
      refine wc_ite (b := false) (by simp only [go_sem, Nat.reduceEqDiff, Nat.reduceAdd, Nat.reduceMul, Nat.reduceSub, Nat.reduceLeDiff, Int.reduceBEq, Int.reduceBNe, Int.reduceLT, Int.reduceLE, Int.reduceGT, Int.reduceGE, Int.reduceEq, ↓reduceIte, reduceCtorEq] <;> rfl) (fun h => by cases h) (fun _ => ?_)
      simp only [go_sem, Nat.reduceEqDiff, Nat.reduceAdd, Nat.reduceMul, Nat.reduceSub, Nat.reduceLeDiff, Int.reduceBEq, Int.reduceBNe, Int.reduceLT, Int.reduceLE, Int.reduceGT, Int.reduceGE, Int.reduceEq, ↓reduceIte, reduceCtorEq]
      refine tail _ f'.sure _ (by rw [hI]; rfl) (by simp only [go_sem, Nat.reduceEqDiff, Nat.reduceAdd, Nat.reduceMul, Nat.reduceSub, Nat.reduceLeDiff, Int.reduceBEq, Int.reduceBNe, Int.reduceLT, Int.reduceLE, Int.reduceGT, Int.reduceGE, Int.reduceEq, ↓reduceIte, reduceCtorEq, f0]) (by simp only [go_sem, Nat.reduceEqDiff, Nat.reduceAdd, Nat.reduceMul, Nat.reduceSub, Nat.reduceLeDiff, Int.reduceBEq, Int.reduceBNe, Int.reduceLT, Int.reduceLE, Int.reduceGT, Int.reduceGE, Int.reduceEq, ↓reduceIte, reduceCtorEq, f1]) (by simp only [go_sem, Nat.reduceEqDiff, Nat.reduceAdd, Nat.reduceMul, Nat.reduceSub, Nat.reduceLeDiff, Int.reduceBEq, Int.reduceBNe, Int.reduceLT, Int.reduceLE, Int.reduceGT, Int.reduceGE, Int.reduceEq, ↓reduceIte, reduceCtorEq, f4]) (by simp only [go_sem, Nat.reduceEqDiff, Nat.reduceAdd, Nat.reduceMul, Nat.reduceSub, Nat.reduceLeDiff, Int.reduceBEq, Int.reduceBNe, Int.reduceLT, Int.reduceLE, Int.reduceGT, Int.reduceGE, Int.reduceEq, ↓reduceIte, reduceCtorEq]) (by simp only [go_sem, Nat.reduceEqDiff, Nat.reduceAdd, Nat.reduceMul, Nat.reduceSub, Nat.reduceLeDiff, Int.reduceBEq, Int.reduceBNe, Int.reduceLT, Int.reduceLE, Int.reduceGT, Int.reduceGE, Int.reduceEq, ↓reduceIte, reduceCtorEq]) fun fr3 S3 l3 g0 g1 g4 a b c => ?_
      simp only [go_sem, Nat.reduceEqDiff, Nat.reduceAdd, Nat.reduceMul, Nat.reduceSub, Nat.reduceLeDiff, Int.reduceBEq, Int.reduceBNe, Int.reduceLT, Int.reduceLE, Int.reduceGT, Int.reduceGE, Int.reduceEq, ↓reduceIte, reduceCtorEq, g4, w1]
      exact ⟨R.l.length - (j + 1), by omega, j + 1, l3, rfl, by omega, g0, g1, rfl, a, b, c⟩
    | some k =>
      obtain ⟨hjk, hke⟩ := List.getElem?_eq_some_iff.1 hk
      have hkt : (kt = .nil) = False := eq_false fun e => by rw [hkn e] at hjk; simp at hjk
      have hb : decide ((j : Int) < (keep.length : Int)) = true := decide_eq_true (by omega)
      have hjkt : (j < keep.length) = True := eq_true hjk
      have hd : (List.drop (j * 1) (keep.map (V.int .i64))).head? = some (.int .i64 k) := by rw [Nat.mul_one, List.head?_drop, List.getElem?_map, hk]; rfl
      have e1 : (f'.file.p.length : Int) = f'.p.length := rfl
      have e2 : (f'.file.sure : Int) = f'.sure := rfl
      simp only [go_sem, Nat.reduceEqDiff, Nat.reduceAdd, Nat.reduceMul, Nat.reduceSub, Nat.reduceLeDiff, Int.reduceBEq, Int.reduceBNe, Int.reduceLT, Int.reduceLE, Int.reduceGT, Int.reduceGE, Int.reduceEq, ↓reduceIte, reduceCtorEq, intsV, b2', hb, hjkt, hkt, hd, f1, f4]
      refine wc_ite (b := decide (k > 0)) (by simp only [go_sem, Nat.reduceEqDiff, Nat.reduceAdd, Nat.reduceMul, Nat.reduceSub, Nat.reduceLeDiff, Int.reduceBEq, Int.reduceBNe, Int.reduceLT, Int.reduceLE, Int.reduceGT, Int.reduceGE, Int.reduceEq, ↓reduceIte, reduceCtorEq]) (fun hc => ?_) (fun hc => ?_)
      · have hk0 : k > 0 := of_decide_eq_true hc
        simp only [go_sem, Nat.reduceEqDiff, Nat.reduceAdd, Nat.reduceMul, Nat.reduceSub, Nat.reduceLeDiff, Int.reduceBEq, Int.reduceBNe, Int.reduceLT, Int.reduceLE, Int.reduceGT, Int.reduceGE, Int.reduceEq, ↓reduceIte, reduceCtorEq, intsV, b2', hb, hjkt, hkt, hd, f1, f4, hL, w2]
        refine wc_ite (b := decide (k > (f'.p.length : Int) - f'.sure)) (by simp only [go_sem, Nat.reduceEqDiff, Nat.reduceAdd, Nat.reduceMul, Nat.reduceSub, Nat.reduceLeDiff, Int.reduceBEq, Int.reduceBNe, Int.reduceLT, Int.reduceLE, Int.reduceGT, Int.reduceGE, Int.reduceEq, ↓reduceIte, reduceCtorEq]) (fun hc => ?_) (fun hc => ?_)
        · have hk1 : k > (f'.p.length : Int) - f'.sure := of_decide_eq_true hc
          have hI := (keepI_val hk f' hsu).1 hk0 hk1
          simp only [go_sem, Nat.reduceEqDiff, Nat.reduceAdd, Nat.reduceMul, Nat.reduceSub, Nat.reduceLeDiff, Int.reduceBEq, Int.reduceBNe, Int.reduceLT, Int.reduceLE, Int.reduceGT, Int.reduceGE, Int.reduceEq, ↓reduceIte, reduceCtorEq, b2', hL]
          refine tail _ f'.p.length _ (by rw [hI]; omega) (by simp only [go_sem, Nat.reduceEqDiff, Nat.reduceAdd, Nat.reduceMul, Nat.reduceSub, Nat.reduceLeDiff, Int.reduceBEq, Int.reduceBNe, Int.reduceLT, Int.reduceLE, Int.reduceGT, Int.reduceGE, Int.reduceEq, ↓reduceIte, reduceCtorEq, f0]) (by simp only [go_sem, Nat.reduceEqDiff, Nat.reduceAdd, Nat.reduceMul, Nat.reduceSub, Nat.reduceLeDiff, Int.reduceBEq, Int.reduceBNe, Int.reduceLT, Int.reduceLE, Int.reduceGT, Int.reduceGE, Int.reduceEq, ↓reduceIte, reduceCtorEq, f1]) (by simp only [go_sem, Nat.reduceEqDiff, Nat.reduceAdd, Nat.reduceMul, Nat.reduceSub, Nat.reduceLeDiff, Int.reduceBEq, Int.reduceBNe, Int.reduceLT, Int.reduceLE, Int.reduceGT, Int.reduceGE, Int.reduceEq, ↓reduceIte, reduceCtorEq, f4]) (by simp only [go_sem, Nat.reduceEqDiff, Nat.reduceAdd, Nat.reduceMul, Nat.reduceSub, Nat.reduceLeDiff, Int.reduceBEq, Int.reduceBNe, Int.reduceLT, Int.reduceLE, Int.reduceGT, Int.reduceGE, Int.reduceEq, ↓reduceIte, reduceCtorEq]) (by simp only [go_sem, Nat.reduceEqDiff, Nat.reduceAdd, Nat.reduceMul, Nat.reduceSub, Nat.reduceLeDiff, Int.reduceBEq, Int.reduceBNe, Int.reduceLT, Int.reduceLE, Int.reduceGT, Int.reduceGE, Int.reduceEq, ↓reduceIte, reduceCtorEq]) fun fr3 S3 l3 g0 g1 g4 a b c => ?_
          simp only [go_sem, Nat.reduceEqDiff, Nat.reduceAdd, Nat.reduceMul, Nat.reduceSub, Nat.reduceLeDiff, Int.reduceBEq, Int.reduceBNe, Int.reduceLT, Int.reduceLE, Int.reduceGT, Int.reduceGE, Int.reduceEq, ↓reduceIte, reduceCtorEq, g4, w1]
          exact ⟨R.l.length - (j + 1), by omega, j + 1, l3, rfl, by omega, g0, g1, rfl, a, b, c⟩
        · have hk1 : ¬ k > (f'.p.length : Int) - f'.sure := of_decide_eq_false hc
          have hI := (keepI_val hk f' hsu).2.1 hk0 hk1
          have w3 : IntKind.i64.wrap ((f'.sure : Int) + k) = ((f'.sure + k.toNat : Nat) : Int) := by rw [w64 (by omega) (by omega)]; omega
          simp only [go_sem, Nat.reduceEqDiff, Nat.reduceAdd, Nat.reduceMul, Nat.reduceSub, Nat.reduceLeDiff, Int.reduceBEq, Int.reduceBNe, Int.reduceLT, Int.reduceLE, Int.reduceGT, Int.reduceGE, Int.reduceEq, ↓reduceIte, reduceCtorEq, intsV, hjkt, hkt, hd, f1, f4, w3]
          refine tail _ (f'.sure + k.toNat) _ (by rw [hI]) (by simp only [go_sem, Nat.reduceEqDiff, Nat.reduceAdd, Nat.reduceMul, Nat.reduceSub, Nat.reduceLeDiff, Int.reduceBEq, Int.reduceBNe, Int.reduceLT, Int.reduceLE, Int.reduceGT, Int.reduceGE, Int.reduceEq, ↓reduceIte, reduceCtorEq, f0]) (by simp only [go_sem, Nat.reduceEqDiff, Nat.reduceAdd, Nat.reduceMul, Nat.reduceSub, Nat.reduceLeDiff, Int.reduceBEq, Int.reduceBNe, Int.reduceLT, Int.reduceLE, Int.reduceGT, Int.reduceGE, Int.reduceEq, ↓reduceIte, reduceCtorEq, f1]) (by simp only [go_sem, Nat.reduceEqDiff, Nat.reduceAdd, Nat.reduceMul, Nat.reduceSub, Nat.reduceLeDiff, Int.reduceBEq, Int.reduceBNe, Int.reduceLT, Int.reduceLE, Int.reduceGT, Int.reduceGE, Int.reduceEq, ↓reduceIte, reduceCtorEq, f4]) (by simp only [go_sem, Nat.reduceEqDiff, Nat.reduceAdd, Nat.reduceMul, Nat.reduceSub, Nat.reduceLeDiff, Int.reduceBEq, Int.reduceBNe, Int.reduceLT, Int.reduceLE, Int.reduceGT, Int.reduceGE, Int.reduceEq, ↓reduceIte, reduceCtorEq]) (by simp only [go_sem, Nat.reduceEqDiff, Nat.reduceAdd, Nat.reduceMul, Nat.reduceSub, Nat.reduceLeDiff, Int.reduceBEq, Int.reduceBNe, Int.reduceLT, Int.reduceLE, Int.reduceGT, Int.reduceGE, Int.reduceEq, ↓reduceIte, reduceCtorEq]) fun fr3 S3 l3 g0 g1 g4 a b c => ?_
          simp only [go_sem, Nat.reduceEqDiff, Nat.reduceAdd, Nat.reduceMul, Nat.reduceSub, Nat.reduceLeDiff, Int.reduceBEq, Int.reduceBNe, Int.reduceLT, Int.reduceLE, Int.reduceGT, Int.reduceGE, Int.reduceEq, ↓reduceIte, reduceCtorEq, g4, w1]
          exact ⟨R.l.length - (j + 1), by omega, j + 1, l3, rfl, by omega, g0, g1, rfl, a, b, c⟩
      · have hk0 : ¬ k > 0 := of_decide_eq_false hc
        have hI := (keepI_val hk f' hsu).2.2 hk0
        simp only [go_sem, Nat.reduceEqDiff, Nat.reduceAdd, Nat.reduceMul, Nat.reduceSub, Nat.reduceLeDiff, Int.reduceBEq, Int.reduceBNe, Int.reduceLT, Int.reduceLE, Int.reduceGT, Int.reduceGE, Int.reduceEq, ↓reduceIte, reduceCtorEq]
        refine tail _ f'.sure _ (by rw [hI]; rfl) (by simp only [go_sem, Nat.reduceEqDiff, Nat.reduceAdd, Nat.reduceMul, Nat.reduceSub, Nat.reduceLeDiff, Int.reduceBEq, Int.reduceBNe, Int.reduceLT, Int.reduceLE, Int.reduceGT, Int.reduceGE, Int.reduceEq, ↓reduceIte, reduceCtorEq, f0]) (by simp only [go_sem, Nat.reduceEqDiff, Nat.reduceAdd, Nat.reduceMul, Nat.reduceSub, Nat.reduceLeDiff, Int.reduceBEq, Int.reduceBNe, Int.reduceLT, Int.reduceLE, Int.reduceGT, Int.reduceGE, Int.reduceEq, ↓reduceIte, reduceCtorEq, f1]) (by simp only [go_sem, Nat.reduceEqDiff, Nat.reduceAdd, Nat.reduceMul, Nat.reduceSub, Nat.reduceLeDiff, Int.reduceBEq, Int.reduceBNe, Int.reduceLT, Int.reduceLE, Int.reduceGT, Int.reduceGE, Int.reduceEq, ↓reduceIte, reduceCtorEq, f4]) (by simp only [go_sem, Nat.reduceEqDiff, Nat.reduceAdd, Nat.reduceMul, Nat.reduceSub, Nat.reduceLeDiff, Int.reduceBEq, Int.reduceBNe, Int.reduceLT, Int.reduceLE, Int.reduceGT, Int.reduceGE, Int.reduceEq, ↓reduceIte, reduceCtorEq]) (by simp only [go_sem, Nat.reduceEqDiff, Nat.reduceAdd, Nat.reduceMul, Nat.reduceSub, Nat.reduceLeDiff, Int.reduceBEq, Int.reduceBNe, Int.reduceLT, Int.reduceLE, Int.reduceGT, Int.reduceGE, Int.reduceEq, ↓reduceIte, reduceCtorEq]) fun fr3 S3 l3 g0 g1 g4 a b c => ?_
        simp only [go_sem, Nat.reduceEqDiff, Nat.reduceAdd, Nat.reduceMul, Nat.reduceSub, Nat.reduceLeDiff, Int.reduceBEq, Int.reduceBNe, Int.reduceLT, Int.reduceLE, Int.reduceGT, Int.reduceGE, Int.reduceEq, ↓reduceIte, reduceCtorEq, g4, w1]
        exact ⟨R.l.length - (j + 1), by omega, j + 1, l3, rfl, by omega, g0, g1, rfl, a, b, c⟩
  · have e : j = R.l.length := by omega
    have hjb : decide ((j : Int) < (l.length : Int)) = false := decide_eq_false (by omega)
    have hfin : ∀ D : DS, Alike D R → (D.files.map (·.name)).Nodup → Alike (D.restart keep) { R with l := l, off := false, arm := 0 } := fun D a hn => a.restart hn keep hll fun i f hf => by
      obtain ⟨f', a1, a2, _⟩ := hcut i f hf
      exact ⟨f', a1, a2 (by have := (List.getElem?_eq_some_iff.1 hf).1; omega)⟩
    have hr := h1.head' (R' := { R with l := l, off := false, arm := 0 }) rfl
    have A2 : RAfter S x o R _ o { R with l := l, off := false, arm := 0 } := A.trans (RAfter.head (R := { R with l := l }) hr (Keeps.set1 S1 x _) rfl)
    have hq := hQ _ _ A2 hfin
    simp only [RS.cells] at hq
    by_cases h0 : l.length = 0
    · rw [h0] at hjb
      simp only [rowV, h0] at hh hq
      simp only [l_r02_Disk_Restart_0, go_sem, Nat.reduceEqDiff, Nat.reduceAdd, Nat.reduceMul, Nat.reduceSub, Nat.reduceLeDiff, Int.reduceBEq, Int.reduceBNe, Int.reduceLT, Int.reduceLE, Int.reduceGT, Int.reduceGE, Int.reduceEq, ↓reduceIte, reduceCtorEq, f0, f4, hh, hjb]
      refine wc_ite (b := false) (by simp only [go_sem, Nat.reduceEqDiff, Nat.reduceAdd, Nat.reduceMul, Nat.reduceSub, Nat.reduceLeDiff, Int.reduceBEq, Int.reduceBNe, Int.reduceLT, Int.reduceLE, Int.reduceGT, Int.reduceGE, Int.reduceEq, ↓reduceIte, reduceCtorEq] <;> rfl) (fun h => by cases h) (fun _ => ?_)
      simp only [s_r02_Disk_Restart_0, go_sem, Nat.reduceEqDiff, Nat.reduceAdd, Nat.reduceMul, Nat.reduceSub, Nat.reduceLeDiff, Int.reduceBEq, Int.reduceBNe, Int.reduceLT, Int.reduceLE, Int.reduceGT, Int.reduceGE, Int.reduceEq, ↓reduceIte, reduceCtorEq, f0, hh]
      exact hq
    · simp only [rowV, h0] at hh hq
      simp only [l_r02_Disk_Restart_0, go_sem, Nat.reduceEqDiff, Nat.reduceAdd, Nat.reduceMul, Nat.reduceSub, Nat.reduceLeDiff, Int.reduceBEq, Int.reduceBNe, Int.reduceLT, Int.reduceLE, Int.reduceGT, Int.reduceGE, Int.reduceEq, ↓reduceIte, reduceCtorEq, f0, f4, hh, hjb]
      refine wc_ite (b := false) (by simp only [go_sem, Nat.reduceEqDiff, Nat.reduceAdd, Nat.reduceMul, Nat.reduceSub, Nat.reduceLeDiff, Int.reduceBEq, Int.reduceBNe, Int.reduceLT, Int.reduceLE, Int.reduceGT, Int.reduceGE, Int.reduceEq, ↓reduceIte, reduceCtorEq] <;> rfl) (fun h => by cases h) (fun _ => ?_)
      simp only [s_r02_Disk_Restart_0, go_sem, Nat.reduceEqDiff, Nat.reduceAdd, Nat.reduceMul, Nat.reduceSub, Nat.reduceLeDiff, Int.reduceBEq, Int.reduceBNe, Int.reduceLT, Int.reduceLE, Int.reduceGT, Int.reduceGE, Int.reduceEq, ↓reduceIte, reduceCtorEq, f0, hh]
      exact hq
end Go.VM
