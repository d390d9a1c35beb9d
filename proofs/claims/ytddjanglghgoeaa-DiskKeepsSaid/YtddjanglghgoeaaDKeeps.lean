/-
  DiskKeeps. NEWPP
-/
import Derived.Test.YtddjanglghgoeaaDOff
set_option linter.unusedVariables false
set_option linter.unusedSimpArgs false
namespace Go.VM
open Go Go.RowKit Go.Proofs

/-- Bytes in cells of their own; or there are none. -/
def Mine (S : St) (v : V) (bs : List UInt8) : Prop := (bs = [] ∧ v = .sl [] 0 1 .nil) ∨ ∃ q, v = .msl q 0 bs.length 1 ∧ q < S.n ∧ S.cells q = some (bs.map u8V)
def atV (v : V) (j : Nat) : Prop := ∃ n, v = .msl j 0 n 1
theorem Mine.keep {S S' : St} {v : V} {bs : List UInt8} {o : Nat → Prop} (h : Mine S v bs) (k : Keeps o S S') (ho : ∀ j, atV v j → ¬ o j) : Mine S' v bs := by
  rcases h with h | ⟨q, rfl, h2, h3⟩
  · exact .inl h
  · exact .inr ⟨q, rfl, k.lt h2, k.cells h3 h2 (ho q ⟨_, rfl⟩)⟩
theorem Mine.into {S : St} {v : V} {bs : List UInt8} {o : Nat → Prop} (h : Mine S v bs) (ho : ∀ j, atV v j → ¬ o j) : BytesIn S o v bs := by
  rcases h with ⟨rfl, rfl⟩ | ⟨q, rfl, h2, h3⟩
  · exact isBytes_nil.into S o
  · refine ⟨rfl, rfl, fun S' k => ?_⟩
    have := k.cells h3 h2 (ho q ⟨_, rfl⟩)
    simp only [V.elems, this, if_true, Option.bind_some]
    simp
    exact List.take_of_length_le (by simp)
theorem Mine.lt {S : St} {v : V} {bs : List UInt8} (h : Mine S v bs) {j : Nat} (hj : atV v j) : j < S.n := by
  rcases h with ⟨_, rfl⟩ | ⟨q, rfl, h2, h3⟩
  · obtain ⟨n, h⟩ := hj; cases h
  · obtain ⟨n, h⟩ := hj; injection h with h; subst h; exact h2

theorem appendMu_runs {cl : Cl} {fr : Fr} {S : St} {K : Fr → St → Prop} {Kp : V → St → Prop} {dst : Option Nat} {bytes : Nat} {s x : Arg} {r : List Item} {bs : List UInt8}
    (hs : s.ev fr = .sl [] 0 1 .nil) (hx : (x.ev fr).elems S 1 = some (bs.length, bs.map u8V)) (hr : roomOk bs.length bytes = true)
    (h : ∀ S' v, Mine S' v bs → v.one = true → (∀ j, atV v j → S.n ≤ j) → Keeps (fun _ => False) S S' → wItems cl r (fr.put dst v) S' K Kp) :
    wItems cl (.run ⟨dst, none, .e (.append 1 bytes true s x)⟩ :: r) fr S K Kp := by
  refine wi_append_mu0 hs hx (by simp) hr (fun h0 => ?_) fun h0 => ?_
  · have hb : bs = [] := List.eq_nil_of_length_eq_zero h0
    exact h S _ (.inl ⟨hb, rfl⟩) rfl (fun j ⟨n, e⟩ => by cases e) (Keeps.refl _ _)
  · exact h _ _ (.inr ⟨S.n, rfl, by simp only [go_sem, Nat.reduceEqDiff, Nat.reduceAdd, Nat.reduceMul, Nat.reduceSub, Nat.reduceLeDiff, Int.reduceBEq, Int.reduceBNe, Int.reduceLT, Int.reduceLE, Int.reduceGT, Int.reduceGE, Int.reduceEq, ↓reduceIte, reduceCtorEq]; omega, by simp only [go_sem, Nat.reduceEqDiff, Nat.reduceAdd, Nat.reduceMul, Nat.reduceSub, Nat.reduceLeDiff, Int.reduceBEq, Int.reduceBNe, Int.reduceLT, Int.reduceLE, Int.reduceGT, Int.reduceGE, Int.reduceEq, ↓reduceIte, reduceCtorEq]⟩) rfl (fun j ⟨n, e⟩ => by injection e with e; omega) ((Keeps.refl _ S).add _)

theorem readMu_runs {w0 : World} {S : St} {Q : AEnd → St → Prop} {i : Nat} {D : Dk} {s : List UInt8} (h : DiskAt S i D) (hl : s.length ≤ 1000000000000000) (hE : D.abs.readE s = 0)
    (hQ : ∀ S' v, Mine S' v (D.abs.bytes s) → v.one = true → (∀ j, atV v j → S.n ≤ j) → Keeps (fun _ => False) S S' → Q (.ret (.tup [v, .int .i64 0])) S') : RSim Try.prog w0 n_disk_Disk_Read [.ptr (some (i, 0)), .str (mkS s)] S Q := by
  have h1 := h.head
  have hm := h.map
  refine RSim.run mixed k_disk_Disk_Read_v1 ?_ (by simp)
  simp only [b_disk_Disk_Read_v1, go_sem, Nat.reduceEqDiff, Nat.reduceAdd, Nat.reduceMul, Nat.reduceSub, Nat.reduceLeDiff, Int.reduceBEq, Int.reduceBNe, Int.reduceLT, Int.reduceLE, Int.reduceGT, Int.reduceGE, Int.reduceEq, ↓reduceIte, reduceCtorEq]
  refine wi_call ?_
  simp only [go_sem, Nat.reduceEqDiff, Nat.reduceAdd, Nat.reduceMul, Nat.reduceSub, Nat.reduceLeDiff, Int.reduceBEq, Int.reduceBNe, Int.reduceLT, Int.reduceLE, Int.reduceGT, Int.reduceGE, Int.reduceEq, ↓reduceIte, reduceCtorEq]
  unfold DS.readE at hE
  split at hE
  · cases hE
  rename_i hn
  have hn : nameOk s = true := by simpa using hn
  split at hE
  · cases hE
  rename_i ho
  have ho : D.off = false := by
    have : ¬ D.off = true := ho
    simpa using this
  split at hE
  · rename_i x hx
    rcases find_cases s D.ents with ⟨a, e, b, he, hsn, ha⟩ | hno
    · have hf := findE_some (b := b) hsn a 0 ha
      rw [← he] at hf
      have hEe := h.ents e (by rw [he]; simp)
      have hfs : findF s D.abs.files = some e.file := by simp only [Dk.abs, he]; exact findF_some hsn ha
      have hbs : D.abs.bytes s = e.p := by
        have ho' : D.abs.off = false := ho
        simp only [DS.bytes, hn, ho', hfs, if_false, reduceCtorEq]; rfl
      rw [hbs] at hQ
      refine look1_runs hl (fun _ => ?_) (fun hn' => by rw [hn] at hn'; cases hn')
      simp only [go_sem, Nat.reduceEqDiff, Nat.reduceAdd, Nat.reduceMul, Nat.reduceSub, Nat.reduceLeDiff, Int.reduceBEq, Int.reduceBNe, Int.reduceLT, Int.reduceLE, Int.reduceGT, Int.reduceGE, Int.reduceEq, ↓reduceIte, reduceCtorEq]
      refine wc_ite (b := false) (by simp only [go_sem, Nat.reduceEqDiff, Nat.reduceAdd, Nat.reduceMul, Nat.reduceSub, Nat.reduceLeDiff, Int.reduceBEq, Int.reduceBNe, Int.reduceLT, Int.reduceLE, Int.reduceGT, Int.reduceGE, Int.reduceEq, ↓reduceIte, reduceCtorEq] <;> rfl) (fun h => by cases h) (fun _ => ?_)
      simp only [go_sem, Nat.reduceEqDiff, Nat.reduceAdd, Nat.reduceMul, Nat.reduceSub, Nat.reduceLeDiff, Int.reduceBEq, Int.reduceBNe, Int.reduceLT, Int.reduceLE, Int.reduceGT, Int.reduceGE, Int.reduceEq, ↓reduceIte, reduceCtorEq, h1, Dk.cells, ho]
      refine wc_ite (b := false) (by simp only [go_sem, Nat.reduceEqDiff, Nat.reduceAdd, Nat.reduceMul, Nat.reduceSub, Nat.reduceLeDiff, Int.reduceBEq, Int.reduceBNe, Int.reduceLT, Int.reduceLE, Int.reduceGT, Int.reduceGE, Int.reduceEq, ↓reduceIte, reduceCtorEq] <;> rfl) (fun h => by cases h) (fun _ => ?_)
      simp only [go_sem, Nat.reduceEqDiff, Nat.reduceAdd, Nat.reduceMul, Nat.reduceSub, Nat.reduceLeDiff, Int.reduceBEq, Int.reduceBNe, Int.reduceLT, Int.reduceLE, Int.reduceGT, Int.reduceGE, Int.reduceEq, ↓reduceIte, reduceCtorEq, h1, hm, hf, Dk.cells, ho]
      refine wc_ite (b := false) (by simp only [go_sem, Nat.reduceEqDiff, Nat.reduceAdd, Nat.reduceMul, Nat.reduceSub, Nat.reduceLeDiff, Int.reduceBEq, Int.reduceBNe, Int.reduceLT, Int.reduceLE, Int.reduceGT, Int.reduceGE, Int.reduceEq, ↓reduceIte, reduceCtorEq] <;> rfl) (fun h => by cases h) (fun _ => ?_)
      have hw := h.wf.sure e (by rw [he]; simp)
      have hlen : e.p.length ≤ 67108864 := by
        have h2 := h.wf.used; have h3 := h.wf.fits; have h4 := h.wf.room
        have h5 := sumLen_mem (l := D.ents) (e := e) (by rw [he]; simp)
        omega
      simp only [go_sem, Nat.reduceEqDiff, Nat.reduceAdd, Nat.reduceMul, Nat.reduceSub, Nat.reduceLeDiff, Int.reduceBEq, Int.reduceBNe, Int.reduceLT, Int.reduceLE, Int.reduceGT, Int.reduceGE, Int.reduceEq, ↓reduceIte, reduceCtorEq, h1, hm, hf, Dk.cells, hEe.cells]
      refine appendMu_runs (bs := e.p) (by simp only [go_sem, Nat.reduceEqDiff, Nat.reduceAdd, Nat.reduceMul, Nat.reduceSub, Nat.reduceLeDiff, Int.reduceBEq, Int.reduceBNe, Int.reduceLT, Int.reduceLE, Int.reduceGT, Int.reduceGE, Int.reduceEq, ↓reduceIte, reduceCtorEq]) (by
          simp only [go_sem, Nat.reduceEqDiff, Nat.reduceAdd, Nat.reduceMul, Nat.reduceSub, Nat.reduceLeDiff, Int.reduceBEq, Int.reduceBNe, Int.reduceLT, Int.reduceLE, Int.reduceGT, Int.reduceGE, Int.reduceEq, ↓reduceIte, reduceCtorEq, V.elems]
          split
          · rename_i ht; rw [hEe.nil ht]; rfl
          · rfl) (by simp [roomOk]; omega) fun S' v hv h1v hvn k => ?_
      simp only [go_sem, Nat.reduceEqDiff, Nat.reduceAdd, Nat.reduceMul, Nat.reduceSub, Nat.reduceLeDiff, Int.reduceBEq, Int.reduceBNe, Int.reduceLT, Int.reduceLE, Int.reduceGT, Int.reduceGE, Int.reduceEq, ↓reduceIte, reduceCtorEq]
      exact hQ S' v hv h1v hvn k
    · rw [show findF s D.abs.files = none from findF_none hno] at hx; cases hx
  · cases hE

def AllU8 (cs : List V) : Prop := ∀ c ∈ cs, ∃ n : Int, c = .int .u8 n
theorem keepsLoop0 {w0 : World} {fr : Fr} {S : St} {Q : CPost} {v : V} {bs : List UInt8} (hv : Mine S v bs) (h7 : fr 7 = v) (h8 : fr 8 = .int .i64 0) (hn : bs.length ≤ 67108864)
    (hQ : ∀ fr' S', (∀ t, t < 44 → t ≠ 8 → fr' t = fr t) → Keeps (atV v) S S' → Q .normal fr' S') : wCode (RSim Try.prog w0) (.blk 0 (.loop l_l02_DiskKeeps_0)) fr S Q := by
  simp only [go_sem, Nat.reduceEqDiff, Nat.reduceAdd, Nat.reduceMul, Nat.reduceSub, Nat.reduceLeDiff, Int.reduceBEq, Int.reduceBNe, Int.reduceLT, Int.reduceLE, Int.reduceGT, Int.reduceGE, Int.reduceEq, ↓reduceIte, reduceCtorEq]
  rcases hv with ⟨_, rfl⟩ | ⟨q, rfl, hq, hc⟩
  · refine Loop.fold RSim.le ?_
    simp only [l_l02_DiskKeeps_0, go_sem, Nat.reduceEqDiff, Nat.reduceAdd, Nat.reduceMul, Nat.reduceSub, Nat.reduceLeDiff, Int.reduceBEq, Int.reduceBNe, Int.reduceLT, Int.reduceLE, Int.reduceGT, Int.reduceGE, Int.reduceEq, ↓reduceIte, reduceCtorEq, h7, h8, Int.natCast_zero]
    refine wc_ite (b := false) (by simp only [go_sem, Nat.reduceEqDiff, Nat.reduceAdd, Nat.reduceMul, Nat.reduceSub, Nat.reduceLeDiff, Int.reduceBEq, Int.reduceBNe, Int.reduceLT, Int.reduceLE, Int.reduceGT, Int.reduceGE, Int.reduceEq, ↓reduceIte, reduceCtorEq] <;> rfl) (fun h => by cases h) (fun _ => ?_)
    simp only [go_sem, Nat.reduceEqDiff, Nat.reduceAdd, Nat.reduceMul, Nat.reduceSub, Nat.reduceLeDiff, Int.reduceBEq, Int.reduceBNe, Int.reduceLT, Int.reduceLE, Int.reduceGT, Int.reduceGE, Int.reduceEq, ↓reduceIte, reduceCtorEq]
    refine hQ _ _ (fun t ht hi => ?_) (Keeps.refl _ _)
    simp only [put_some]
    repeat rw [if_neg (by omega)]
  · refine loop_rule RSim.le (k := bs.length) (fun m fr1 S1 => ∃ (j : Nat) (cs1 : List V), m = bs.length - j ∧ j ≤ bs.length ∧ (∀ t, t < 44 → t ≠ 8 → fr1 t = fr t) ∧ fr1 8 = .int .i64 j ∧ Keeps (atV (.msl q 0 bs.length 1)) S S1 ∧ S1.cells q = some cs1 ∧ cs1.length = bs.length ∧ AllU8 cs1) ?_
      ⟨0, _, rfl, Nat.zero_le _, fun _ _ _ => rfl, by rw [h8]; rfl, Keeps.refl _ _, hc, by simp, fun c h => by simp at h; obtain ⟨b, _, rfl⟩ := h; exact ⟨_, rfl⟩⟩
    rintro m fr1 S1 ⟨j, cs1, hm, hj, s1, f8, k1, c1, l1, u1⟩
    subst hm
    have f7 : fr1 7 = .msl q 0 bs.length 1 := (s1 7 (by omega) (by omega)).trans h7
    simp only [l_l02_DiskKeeps_0, go_sem, Nat.reduceEqDiff, Nat.reduceAdd, Nat.reduceMul, Nat.reduceSub, Nat.reduceLeDiff, Int.reduceBEq, Int.reduceBNe, Int.reduceLT, Int.reduceLE, Int.reduceGT, Int.reduceGE, Int.reduceEq, ↓reduceIte, reduceCtorEq, f7, f8]
    refine wc_ite (b := decide ((j : Int) < bs.length)) (by simp only [go_sem, Nat.reduceEqDiff, Nat.reduceAdd, Nat.reduceMul, Nat.reduceSub, Nat.reduceLeDiff, Int.reduceBEq, Int.reduceBNe, Int.reduceLT, Int.reduceLE, Int.reduceGT, Int.reduceGE, Int.reduceEq, ↓reduceIte, reduceCtorEq]) (fun hc => ?_) (fun hc => ?_)
    · have hjl : j < bs.length := by have := of_decide_eq_true hc; omega
      have hw : IntKind.i64.wrap ((j : Int) + 1) = ((j + 1 : Nat) : Int) := by rw [w64 (by omega) (by omega)]; omega
      have hj1 : cs1[j]? = some (cs1[j]'(by omega)) := List.getElem?_eq_getElem (by omega)
      obtain ⟨y, hy⟩ := u1 _ (List.getElem_mem (show j < cs1.length by omega))
      obtain ⟨z, hz⟩ : ∃ z, bitsV .xor .u8 y 1 = some z := ⟨_, rfl⟩
      have hd : (List.drop (0 + j * 1) cs1).head? = some (.int .u8 y) := by
        rw [Nat.mul_one, Nat.zero_add, List.head?_drop, hj1, hy]
      have hd' : (List.drop (j * 1) cs1).head? = some (.int .u8 y) := by
        rw [Nat.mul_one, List.head?_drop, hj1, hy]
      simp only [r_l02_DiskKeeps_0, go_sem, Nat.reduceEqDiff, Nat.reduceAdd, Nat.reduceMul, Nat.reduceSub, Nat.reduceLeDiff, Int.reduceBEq, Int.reduceBNe, Int.reduceLT, Int.reduceLE, Int.reduceGT, Int.reduceGE, Int.reduceEq, ↓reduceIte, reduceCtorEq, f7, f8, hjl, c1, hd, hd', hz, hw]
      refine ⟨by omega, bs.length - (j + 1), by omega, j + 1, _, rfl, by omega, fun t ht hi => ?_, rfl, k1.trans (Keeps.set1 S1 q _) fun _ _ e => ⟨bs.length, by rw [e]⟩, rfl, ?_, ?_⟩
      · try simp only [put_some]
        repeat rw [if_neg (by omega)]
        exact s1 t ht hi
      · simp only [List.length_append, List.length_take, List.length_drop, List.length_cons, List.length_nil]; omega
      · intro c hc
        rcases List.mem_append.1 hc with hc | hc
        · rcases List.mem_append.1 hc with hc | hc
          · exact u1 c (List.mem_of_mem_take hc)
          · simp only [List.mem_singleton] at hc; exact ⟨_, hc⟩
        · exact u1 c (List.mem_of_mem_drop hc)
    · simp only [go_sem, Nat.reduceEqDiff, Nat.reduceAdd, Nat.reduceMul, Nat.reduceSub, Nat.reduceLeDiff, Int.reduceBEq, Int.reduceBNe, Int.reduceLT, Int.reduceLE, Int.reduceGT, Int.reduceGE, Int.reduceEq, ↓reduceIte, reduceCtorEq]
      refine hQ _ _ (fun t ht hi => ?_) k1
      simp only [put_some]
      repeat rw [if_neg (by omega)]
      exact s1 t ht hi

theorem keepsLoop1 {w0 : World} {fr : Fr} {S : St} {Q : CPost} {v : V} {bs : List UInt8} (hv : Mine S v bs) (h7 : fr 9 = v) (h8 : fr 11 = .int .i64 0) (hn : bs.length ≤ 67108864)
    (hQ : ∀ fr' S', (∀ t, t < 63 → t ≠ 11 → fr' t = fr t) → Keeps (atV v) S S' → Q .normal fr' S') : wCode (RSim Try.prog w0) (.blk 2 (.loop l_l02_DiskKeeps_1)) fr S Q := by
  simp only [go_sem, Nat.reduceEqDiff, Nat.reduceAdd, Nat.reduceMul, Nat.reduceSub, Nat.reduceLeDiff, Int.reduceBEq, Int.reduceBNe, Int.reduceLT, Int.reduceLE, Int.reduceGT, Int.reduceGE, Int.reduceEq, ↓reduceIte, reduceCtorEq]
  rcases hv with ⟨_, rfl⟩ | ⟨q, rfl, hq, hc⟩
  · refine Loop.fold RSim.le ?_
    simp only [l_l02_DiskKeeps_1, go_sem, Nat.reduceEqDiff, Nat.reduceAdd, Nat.reduceMul, Nat.reduceSub, Nat.reduceLeDiff, Int.reduceBEq, Int.reduceBNe, Int.reduceLT, Int.reduceLE, Int.reduceGT, Int.reduceGE, Int.reduceEq, ↓reduceIte, reduceCtorEq, h7, h8, Int.natCast_zero]
    refine wc_ite (b := false) (by simp only [go_sem, Nat.reduceEqDiff, Nat.reduceAdd, Nat.reduceMul, Nat.reduceSub, Nat.reduceLeDiff, Int.reduceBEq, Int.reduceBNe, Int.reduceLT, Int.reduceLE, Int.reduceGT, Int.reduceGE, Int.reduceEq, ↓reduceIte, reduceCtorEq] <;> rfl) (fun h => by cases h) (fun _ => ?_)
    simp only [go_sem, Nat.reduceEqDiff, Nat.reduceAdd, Nat.reduceMul, Nat.reduceSub, Nat.reduceLeDiff, Int.reduceBEq, Int.reduceBNe, Int.reduceLT, Int.reduceLE, Int.reduceGT, Int.reduceGE, Int.reduceEq, ↓reduceIte, reduceCtorEq]
    refine hQ _ _ (fun t ht hi => ?_) (Keeps.refl _ _)
    simp only [put_some]
    repeat rw [if_neg (by omega)]
  · refine loop_rule RSim.le (k := bs.length) (fun m fr1 S1 => ∃ (j : Nat) (cs1 : List V), m = bs.length - j ∧ j ≤ bs.length ∧ (∀ t, t < 63 → t ≠ 11 → fr1 t = fr t) ∧ fr1 11 = .int .i64 j ∧ Keeps (atV (.msl q 0 bs.length 1)) S S1 ∧ S1.cells q = some cs1 ∧ cs1.length = bs.length ∧ AllU8 cs1) ?_
      ⟨0, _, rfl, Nat.zero_le _, fun _ _ _ => rfl, by rw [h8]; rfl, Keeps.refl _ _, hc, by simp, fun c h => by simp at h; obtain ⟨b, _, rfl⟩ := h; exact ⟨_, rfl⟩⟩
    rintro m fr1 S1 ⟨j, cs1, hm, hj, s1, f8, k1, c1, l1, u1⟩
    subst hm
    have f7 : fr1 9 = .msl q 0 bs.length 1 := (s1 9 (by omega) (by omega)).trans h7
    simp only [l_l02_DiskKeeps_1, go_sem, Nat.reduceEqDiff, Nat.reduceAdd, Nat.reduceMul, Nat.reduceSub, Nat.reduceLeDiff, Int.reduceBEq, Int.reduceBNe, Int.reduceLT, Int.reduceLE, Int.reduceGT, Int.reduceGE, Int.reduceEq, ↓reduceIte, reduceCtorEq, f7, f8]
    refine wc_ite (b := decide ((j : Int) < bs.length)) (by simp only [go_sem, Nat.reduceEqDiff, Nat.reduceAdd, Nat.reduceMul, Nat.reduceSub, Nat.reduceLeDiff, Int.reduceBEq, Int.reduceBNe, Int.reduceLT, Int.reduceLE, Int.reduceGT, Int.reduceGE, Int.reduceEq, ↓reduceIte, reduceCtorEq]) (fun hc => ?_) (fun hc => ?_)
    · have hjl : j < bs.length := by have := of_decide_eq_true hc; omega
      have hw : IntKind.i64.wrap ((j : Int) + 1) = ((j + 1 : Nat) : Int) := by rw [w64 (by omega) (by omega)]; omega
      have hj1 : cs1[j]? = some (cs1[j]'(by omega)) := List.getElem?_eq_getElem (by omega)
      obtain ⟨y, hy⟩ := u1 _ (List.getElem_mem (show j < cs1.length by omega))
      obtain ⟨z, hz⟩ : ∃ z, bitsV .xor .u8 y 1 = some z := ⟨_, rfl⟩
      have hd : (List.drop (0 + j * 1) cs1).head? = some (.int .u8 y) := by
        rw [Nat.mul_one, Nat.zero_add, List.head?_drop, hj1, hy]
      have hd' : (List.drop (j * 1) cs1).head? = some (.int .u8 y) := by
        rw [Nat.mul_one, List.head?_drop, hj1, hy]
      simp only [r_l02_DiskKeeps_1, go_sem, Nat.reduceEqDiff, Nat.reduceAdd, Nat.reduceMul, Nat.reduceSub, Nat.reduceLeDiff, Int.reduceBEq, Int.reduceBNe, Int.reduceLT, Int.reduceLE, Int.reduceGT, Int.reduceGE, Int.reduceEq, ↓reduceIte, reduceCtorEq, f7, f8, hjl, c1, hd, hd', hz, hw]
      refine ⟨by omega, bs.length - (j + 1), by omega, j + 1, _, rfl, by omega, fun t ht hi => ?_, rfl, k1.trans (Keeps.set1 S1 q _) fun _ _ e => ⟨bs.length, by rw [e]⟩, rfl, ?_, ?_⟩
      · try simp only [put_some]
        repeat rw [if_neg (by omega)]
        exact s1 t ht hi
      · simp only [List.length_append, List.length_take, List.length_drop, List.length_cons, List.length_nil]; omega
      · intro c hc
        rcases List.mem_append.1 hc with hc | hc
        · rcases List.mem_append.1 hc with hc | hc
          · exact u1 c (List.mem_of_mem_take hc)
          · simp only [List.mem_singleton] at hc; exact ⟨_, hc⟩
        · exact u1 c (List.mem_of_mem_drop hc)
    · simp only [go_sem, Nat.reduceEqDiff, Nat.reduceAdd, Nat.reduceMul, Nat.reduceSub, Nat.reduceLeDiff, Int.reduceBEq, Int.reduceBNe, Int.reduceLT, Int.reduceLE, Int.reduceGT, Int.reduceGE, Int.reduceEq, ↓reduceIte, reduceCtorEq]
      refine hQ _ _ (fun t ht hi => ?_) k1
      simp only [put_some]
      repeat rw [if_neg (by omega)]
      exact s1 t ht hi


theorem sure_keep (keep : Int) (p : List UInt8) (sure : Nat) (hs : sure ≤ p.length) (room used ops : Int) : ((⟨[⟨[97], p, sure⟩], room, used, ops, 0, false⟩ : DS).restart [keep]).sureOf [97] = (sure + (keepI [keep] 0 ⟨[97], p, sure⟩).toNat : Nat) := by
  have : (⟨[⟨[97], p, sure⟩], room, used, ops, 0, false⟩ : DS).names = [[97]] := List.mergeSort_singleton _
  unfold DS.restart
  rw [this]
  rfl

theorem diskKeeps_runs {w0 : World} {p : List UInt8} {v : V} {keep : Int} (hv : IsBytes v p) (hpl : p.length ≤ 1000000000000000) {S : St} {Q : AEnd → St → Prop} (hQ : ∀ S', Q (.ret (.bool true)) S') :
    RSim Try.prog w0 n_l02_DiskKeeps [v, .int .i64 keep] S Q := by
  have hL := (hv.into S (fun _ => False)).len
  simp only [aF, Arg.ev] at hL
  refine RSim.run mixed k_l02_DiskKeeps ?_ (by simp)
  simp only [b_l02_DiskKeeps, go_sem, Nat.reduceEqDiff, Nat.reduceAdd, Nat.reduceMul, Nat.reduceSub, Nat.reduceLeDiff, Int.reduceBEq, Int.reduceBNe, Int.reduceLT, Int.reduceLE, Int.reduceGT, Int.reduceGE, Int.reduceEq, ↓reduceIte, reduceCtorEq]
  refine wi_call ?_
  simp only [go_sem, Nat.reduceEqDiff, Nat.reduceAdd, Nat.reduceMul, Nat.reduceSub, Nat.reduceLeDiff, Int.reduceBEq, Int.reduceBNe, Int.reduceLT, Int.reduceLE, Int.reduceGT, Int.reduceGE, Int.reduceEq, ↓reduceIte, reduceCtorEq]
  refine diskAwake_runs fun S1 k1 => ?_
  simp only [go_sem, Nat.reduceEqDiff, Nat.reduceAdd, Nat.reduceMul, Nat.reduceSub, Nat.reduceLeDiff, Int.reduceBEq, Int.reduceBNe, Int.reduceLT, Int.reduceLE, Int.reduceGT, Int.reduceGE, Int.reduceEq, ↓reduceIte, reduceCtorEq, hL]
  refine wc_ite (b := decide ((p.length : Int) > 1000)) (by simp only [go_sem, Nat.reduceEqDiff, Nat.reduceAdd, Nat.reduceMul, Nat.reduceSub, Nat.reduceLeDiff, Int.reduceBEq, Int.reduceBNe, Int.reduceLT, Int.reduceLE, Int.reduceGT, Int.reduceGE, Int.reduceEq, ↓reduceIte, reduceCtorEq]) (fun hc => ?_) (fun hc => ?_)
  · simp only [go_sem, Nat.reduceEqDiff, Nat.reduceAdd, Nat.reduceMul, Nat.reduceSub, Nat.reduceLeDiff, Int.reduceBEq, Int.reduceBNe, Int.reduceLT, Int.reduceLE, Int.reduceGT, Int.reduceGE, Int.reduceEq, ↓reduceIte, reduceCtorEq]
    refine wi_call ?_
    simp only [go_sem, Nat.reduceEqDiff, Nat.reduceAdd, Nat.reduceMul, Nat.reduceSub, Nat.reduceLeDiff, Int.reduceBEq, Int.reduceBNe, Int.reduceLT, Int.reduceLE, Int.reduceGT, Int.reduceGE, Int.reduceEq, ↓reduceIte, reduceCtorEq]
    refine diskAwake_runs fun S2 k2 => ?_
    simp only [go_sem, Nat.reduceEqDiff, Nat.reduceAdd, Nat.reduceMul, Nat.reduceSub, Nat.reduceLeDiff, Int.reduceBEq, Int.reduceBNe, Int.reduceLT, Int.reduceLE, Int.reduceGT, Int.reduceGE, Int.reduceEq, ↓reduceIte, reduceCtorEq]
    exact hQ _
  · have hp5 : (p.length : Int) ≤ 1000 := by have := of_decide_eq_false hc; omega
    simp only [go_sem, Nat.reduceEqDiff, Nat.reduceAdd, Nat.reduceMul, Nat.reduceSub, Nat.reduceLeDiff, Int.reduceBEq, Int.reduceBNe, Int.reduceLT, Int.reduceLE, Int.reduceGT, Int.reduceGE, Int.reduceEq, ↓reduceIte, reduceCtorEq, r_l02_DiskKeeps_2]
    refine wi_call ?_
    simp only [go_sem, Nat.reduceEqDiff, Nat.reduceAdd, Nat.reduceMul, Nat.reduceSub, Nat.reduceLeDiff, Int.reduceBEq, Int.reduceBNe, Int.reduceLT, Int.reduceLE, Int.reduceGT, Int.reduceGE, Int.reduceEq, ↓reduceIte, reduceCtorEq]
    refine new_runs (fun S2 i _ _ hi d2 k2 => ?_) (fun h => by omega)
    simp only [go_sem, Nat.reduceEqDiff, Nat.reduceAdd, Nat.reduceMul, Nat.reduceSub, Nat.reduceLeDiff, Int.reduceBEq, Int.reduceBNe, Int.reduceLT, Int.reduceLE, Int.reduceGT, Int.reduceGE, Int.reduceEq, ↓reduceIte, reduceCtorEq]
    refine appendMu_runs (bs := p) (by simp only [go_sem, Nat.reduceEqDiff, Nat.reduceAdd, Nat.reduceMul, Nat.reduceSub, Nat.reduceLeDiff, Int.reduceBEq, Int.reduceBNe, Int.reduceLT, Int.reduceLE, Int.reduceGT, Int.reduceGE, Int.reduceEq, ↓reduceIte, reduceCtorEq]) (by simp only [go_sem, Nat.reduceEqDiff, Nat.reduceAdd, Nat.reduceMul, Nat.reduceSub, Nat.reduceLeDiff, Int.reduceBEq, Int.reduceBNe, Int.reduceLT, Int.reduceLE, Int.reduceGT, Int.reduceGE, Int.reduceEq, ↓reduceIte, reduceCtorEq]; exact hv.elems _) (by simp [roomOk]; omega) fun S3 m hm h1m hmn k3 => ?_
    have d3 := d2.stay k3
    have no3 : ∀ j, atV m j → ¬ ownD i ⟨S1.n, 0, [], 5000, 0, 0, 0, false⟩ j := fun j hj ho => by
      have := hmn j hj
      have := d2.own_lt ho
      omega
    simp only [go_sem, Nat.reduceEqDiff, Nat.reduceAdd, Nat.reduceMul, Nat.reduceSub, Nat.reduceLeDiff, Int.reduceBEq, Int.reduceBNe, Int.reduceLT, Int.reduceLE, Int.reduceGT, Int.reduceGE, Int.reduceEq, ↓reduceIte, reduceCtorEq]
    refine wi_call ?_
    simp only [go_sem, Nat.reduceEqDiff, Nat.reduceAdd, Nat.reduceMul, Nat.reduceSub, Nat.reduceLeDiff, Int.reduceBEq, Int.reduceBNe, Int.reduceLT, Int.reduceLE, Int.reduceGT, Int.reduceGE, Int.reduceEq, ↓reduceIte, reduceCtorEq]
    refine append_runs d3 (by simp) (hm.into no3) hpl fun S4 D4 d4 a4 k4 o4 => ?_
    have A3 : (⟨S1.n, 0, [], 5000, 0, 0, 0, false⟩ : Dk).abs = ⟨[], 5000, 0, 0, 0, false⟩ := rfl
    rw [A3, none_grow (by omega)] at a4 ⊢
    have hm4 := hm.keep k4 no3
    have no4 : ∀ j, atV m j → ¬ ownD i D4 j := fun j hj ho => by
      rcases o4 j ho with h | h
      · exact no3 j hj h
      · have := hm.lt hj; omega
    simp only [go_sem, Nat.reduceEqDiff, Nat.reduceAdd, Nat.reduceMul, Nat.reduceSub, Nat.reduceLeDiff, Int.reduceBEq, Int.reduceBNe, Int.reduceLT, Int.reduceLE, Int.reduceGT, Int.reduceGE, Int.reduceEq, ↓reduceIte, reduceCtorEq]
    refine wi_call ?_
    simp only [go_sem, Nat.reduceEqDiff, Nat.reduceAdd, Nat.reduceMul, Nat.reduceSub, Nat.reduceLeDiff, Int.reduceBEq, Int.reduceBNe, Int.reduceLT, Int.reduceLE, Int.reduceGT, Int.reduceGE, Int.reduceEq, ↓reduceIte, reduceCtorEq]
    refine sync_runs d4 (by simp) fun S5 D5 d5 a5 k5 o5 => ?_
    rw [a4, one_sync] at a5 ⊢
    have hm5 := hm4.keep k5 no4
    have no5 : ∀ j, atV m j → ¬ ownD i D5 j := fun j hj ho => by
      rcases o5 j ho with h | h
      · exact no4 j hj h
      · have := hm4.lt hj; omega
    simp only [go_sem, Nat.reduceEqDiff, Nat.reduceAdd, Nat.reduceMul, Nat.reduceSub, Nat.reduceLeDiff, Int.reduceBEq, Int.reduceBNe, Int.reduceLT, Int.reduceLE, Int.reduceGT, Int.reduceGE, Int.reduceEq, ↓reduceIte, reduceCtorEq]
    refine wi_call ?_
    simp only [go_sem, Nat.reduceEqDiff, Nat.reduceAdd, Nat.reduceMul, Nat.reduceSub, Nat.reduceLeDiff, Int.reduceBEq, Int.reduceBNe, Int.reduceLT, Int.reduceLE, Int.reduceGT, Int.reduceGE, Int.reduceEq, ↓reduceIte, reduceCtorEq]
    refine append_runs d5 (by simp) (hm5.into no5) hpl fun S6 D6 d6 a6 k6 o6 => ?_
    rw [a5, one_grow (by omega)] at a6 ⊢
    have hm6 := hm5.keep k6 no5
    have no6 : ∀ j, atV m j → ¬ ownD i D6 j := fun j hj ho => by
      rcases o6 j ho with h | h
      · exact no5 j hj h
      · have := hm5.lt hj; omega
    simp only [go_sem, Nat.reduceEqDiff, Nat.reduceAdd, Nat.reduceMul, Nat.reduceSub, Nat.reduceLeDiff, Int.reduceBEq, Int.reduceBNe, Int.reduceLT, Int.reduceLE, Int.reduceGT, Int.reduceGE, Int.reduceEq, ↓reduceIte, reduceCtorEq]
    refine wc_ite (b := false) (by simp only [go_sem, Nat.reduceEqDiff, Nat.reduceAdd, Nat.reduceMul, Nat.reduceSub, Nat.reduceLeDiff, Int.reduceBEq, Int.reduceBNe, Int.reduceLT, Int.reduceLE, Int.reduceGT, Int.reduceGE, Int.reduceEq, ↓reduceIte, reduceCtorEq] <;> rfl) (fun h => by cases h) (fun _ => ?_)
    simp only [wc_skip, seqQ_normal, wc_seq, wc_reg]
    simp only [go_sem, Nat.reduceEqDiff, Nat.reduceAdd, Nat.reduceMul, Nat.reduceSub, Nat.reduceLeDiff, Int.reduceBEq, Int.reduceBNe, Int.reduceLT, Int.reduceLE, Int.reduceGT, Int.reduceGE, Int.reduceEq, ↓reduceIte, reduceCtorEq]
    rw [← wc_blk (id := 0)]
    refine keepsLoop0 hm6 (by simp only [go_sem, Nat.reduceEqDiff, Nat.reduceAdd, Nat.reduceMul, Nat.reduceSub, Nat.reduceLeDiff, Int.reduceBEq, Int.reduceBNe, Int.reduceLT, Int.reduceLE, Int.reduceGT, Int.reduceGE, Int.reduceEq, ↓reduceIte, reduceCtorEq]) (by simp only [go_sem, Nat.reduceEqDiff, Nat.reduceAdd, Nat.reduceMul, Nat.reduceSub, Nat.reduceLeDiff, Int.reduceBEq, Int.reduceBNe, Int.reduceLT, Int.reduceLE, Int.reduceGT, Int.reduceGE, Int.reduceEq, ↓reduceIte, reduceCtorEq]) (by omega) fun fr7 S7 s7 k7 => ?_
    have g0 := s7 0 (by omega) (by omega)
    have g1 := s7 1 (by omega) (by omega)
    have g5 := s7 5 (by omega) (by omega)
    simp only [go_sem, Nat.reduceEqDiff, Nat.reduceAdd, Nat.reduceMul, Nat.reduceSub, Nat.reduceLeDiff, Int.reduceBEq, Int.reduceBNe, Int.reduceLT, Int.reduceLE, Int.reduceGT, Int.reduceGE, Int.reduceEq, ↓reduceIte, reduceCtorEq] at g0 g1 g5
    have d7 := d6.keep k7 fun j hj ha => no6 j ha hj
    have B6 : D6.abs.bytes [97] = p ++ p := by rw [a6]; rfl
    have E6 : D6.abs.readE [97] = 0 := by rw [a6]; rfl
    have hus : D6.abs.used ≤ 5000 := by rw [a6]; simp only; omega
    simp only [s_l02_DiskKeeps_1, go_sem, Nat.reduceEqDiff, Nat.reduceAdd, Nat.reduceMul, Nat.reduceSub, Nat.reduceLeDiff, Int.reduceBEq, Int.reduceBNe, Int.reduceLT, Int.reduceLE, Int.reduceGT, Int.reduceGE, Int.reduceEq, ↓reduceIte, reduceCtorEq, g5]
    refine wi_call ?_
    simp only [go_sem, Nat.reduceEqDiff, Nat.reduceAdd, Nat.reduceMul, Nat.reduceSub, Nat.reduceLeDiff, Int.reduceBEq, Int.reduceBNe, Int.reduceLT, Int.reduceLE, Int.reduceGT, Int.reduceGE, Int.reduceEq, ↓reduceIte, reduceCtorEq]
    refine readMu_runs d7 (by simp) E6 fun S8 q hq h1q hqn k8 => ?_
    rw [B6] at hq
    have d8 := d7.stay k8
    simp only [go_sem, Nat.reduceEqDiff, Nat.reduceAdd, Nat.reduceMul, Nat.reduceSub, Nat.reduceLeDiff, Int.reduceBEq, Int.reduceBNe, Int.reduceLT, Int.reduceLE, Int.reduceGT, Int.reduceGE, Int.reduceEq, ↓reduceIte, reduceCtorEq]
    refine keepsLoop1 hq (by simp only [go_sem, Nat.reduceEqDiff, Nat.reduceAdd, Nat.reduceMul, Nat.reduceSub, Nat.reduceLeDiff, Int.reduceBEq, Int.reduceBNe, Int.reduceLT, Int.reduceLE, Int.reduceGT, Int.reduceGE, Int.reduceEq, ↓reduceIte, reduceCtorEq]) (by simp only [go_sem, Nat.reduceEqDiff, Nat.reduceAdd, Nat.reduceMul, Nat.reduceSub, Nat.reduceLeDiff, Int.reduceBEq, Int.reduceBNe, Int.reduceLT, Int.reduceLE, Int.reduceGT, Int.reduceGE, Int.reduceEq, ↓reduceIte, reduceCtorEq]) (by simp; omega) fun fr9 S9 s9 k9 => ?_
    have e0 := s9 0 (by omega) (by omega)
    have e1 := s9 1 (by omega) (by omega)
    have e5 := s9 5 (by omega) (by omega)
    have e10 := s9 10 (by omega) (by omega)
    simp only [go_sem, Nat.reduceEqDiff, Nat.reduceAdd, Nat.reduceMul, Nat.reduceSub, Nat.reduceLeDiff, Int.reduceBEq, Int.reduceBNe, Int.reduceLT, Int.reduceLE, Int.reduceGT, Int.reduceGE, Int.reduceEq, ↓reduceIte, reduceCtorEq] at e0 e1 e5 e10
    have d9 := d8.keep k9 fun j hj ha => by have := hqn j ha; have := d7.own_lt hj; omega
    simp only [s_l02_DiskKeeps_0, go_sem, Nat.reduceEqDiff, Nat.reduceAdd, Nat.reduceMul, Nat.reduceSub, Nat.reduceLeDiff, Int.reduceBEq, Int.reduceBNe, Int.reduceLT, Int.reduceLE, Int.reduceGT, Int.reduceGE, Int.reduceEq, ↓reduceIte, reduceCtorEq, e5, g5]
    refine wi_call ?_
    simp only [go_sem, Nat.reduceEqDiff, Nat.reduceAdd, Nat.reduceMul, Nat.reduceSub, Nat.reduceLeDiff, Int.reduceBEq, Int.reduceBNe, Int.reduceLT, Int.reduceLE, Int.reduceGT, Int.reduceGE, Int.reduceEq, ↓reduceIte, reduceCtorEq]
    refine read_abs d9 (by simp) fun S10 r hr k10 => ?_
    have d10 := d9.stay k10
    rw [B6] at hr
    rw [E6]
    have cv : ∀ S, V.conv S .bytesStr v = some (.str (mkS p)) := fun S => hv.convS S
    have cr : ∀ S, V.conv S .bytesStr r = some (.str (mkS (p ++ p))) := fun S => hr.convS S
    have hadd := str_add' (a := p) (b := p) (by omega)
    simp only [go_sem, Nat.reduceEqDiff, Nat.reduceAdd, Nat.reduceMul, Nat.reduceSub, Nat.reduceLeDiff, Int.reduceBEq, Int.reduceBNe, Int.reduceLT, Int.reduceLE, Int.reduceGT, Int.reduceGE, Int.reduceEq, ↓reduceIte, reduceCtorEq, e0, e1, e5, e10, g0, g1, g5, cv, cr, hadd]
    refine wi_call ?_
    simp only [go_sem, Nat.reduceEqDiff, Nat.reduceAdd, Nat.reduceMul, Nat.reduceSub, Nat.reduceLeDiff, Int.reduceBEq, Int.reduceBNe, Int.reduceLT, Int.reduceLE, Int.reduceGT, Int.reduceGE, Int.reduceEq, ↓reduceIte, reduceCtorEq]
    have L6 : D6.ents.length = 1 := by have := congrArg (fun D : DS => D.files.length) a6; simpa [Dk.abs] using this
    refine restart_runs (keep := [keep]) (kt := .cap) d10 (by omega) (by intro h; cases h) fun S11 D11 d11 a11 k11 o11 => ?_
    simp only [go_sem, Nat.reduceEqDiff, Nat.reduceAdd, Nat.reduceMul, Nat.reduceSub, Nat.reduceLeDiff, Int.reduceBEq, Int.reduceBNe, Int.reduceLT, Int.reduceLE, Int.reduceGT, Int.reduceGE, Int.reduceEq, ↓reduceIte, reduceCtorEq, e0, e1, e5, g0, g1, g5]
    refine wi_call ?_
    simp only [go_sem, Nat.reduceEqDiff, Nat.reduceAdd, Nat.reduceMul, Nat.reduceSub, Nat.reduceLeDiff, Int.reduceBEq, Int.reduceBNe, Int.reduceLT, Int.reduceLE, Int.reduceGT, Int.reduceGE, Int.reduceEq, ↓reduceIte, reduceCtorEq]
    refine sure_abs d11 ?_
    have E11 : D11.abs.sureOf [97] = (p.length + (keepI [keep] 0 ⟨[97], p ++ p, p.length⟩).toNat : Nat) := by
      rw [a11, a6]
      exact sure_keep keep (p ++ p) p.length (by simp) _ _ _
    rw [E11]
    have hge : decide (((p.length + (keepI [keep] 0 ⟨[97], p ++ p, p.length⟩).toNat : Nat) : Int) ≥ (p.length : Int)) = true := decide_eq_true (by omega)
    simp only [go_sem, Nat.reduceEqDiff, Nat.reduceAdd, Nat.reduceMul, Nat.reduceSub, Nat.reduceLeDiff, Int.reduceBEq, Int.reduceBNe, Int.reduceLT, Int.reduceLE, Int.reduceGT, Int.reduceGE, Int.reduceEq, ↓reduceIte, reduceCtorEq, e0, g0, hL, hge]
    exact hQ _
end Go.VM
